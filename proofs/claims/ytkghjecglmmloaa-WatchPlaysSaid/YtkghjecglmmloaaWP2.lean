/- The plain law of propagation by two watched literals, second part: going through who watches a literal; what is added, taken back, let go. -/
import Derived.Test.YtkghjecglmmloaaWP
namespace Xe
open Tp

/-- while who watches 'lit' is gone through: 'rest' is still to be -/
structure FInv (s : WS) (lit : Int) (rest : List Nat) : Prop where
  inv : WInv { s with W := updW s.W lit (s.W lit ++ rest) }
  hd : (lits s.l)[s.head]? = some (-lit)
  td : s.todo = []
  kept : ∀ id ∈ s.W lit, ∀ e, s.cs[id]? = some e → e.gone = false → Sat s.l e.lits

section
variable {s : WS} {lit : Int} {rest : List Nat}

theorem WInv.begin (I : WInv s) (ht : s.todo = []) (hh : (lits s.l)[s.head]? = some (-lit)) : FInv { s with W := updW s.W lit [] } lit (s.W lit) where
  inv := by
    show WInv { s with W := updW (updW s.W lit []) lit (updW s.W lit [] lit ++ s.W lit) }
    rw [updW_same, List.nil_append, updW_upd, updW_id]
    exact I
  hd := hh
  td := ht
  kept id hid := by
    have : id ∈ updW s.W lit [] lit := hid
    rw [updW_same] at this
    exact absurd this List.not_mem_nil

theorem FInv.mem (F : FInv s lit rest) {x : Int} {k : Nat} : k ∈ updW s.W lit (s.W lit ++ rest) x ↔ k ∈ s.W x ∨ (x = lit ∧ k ∈ rest) := by
  unfold updW
  split
  · rename_i h; subst h; rw [List.mem_append]; exact ⟨fun h => h.imp_right fun h => ⟨rfl, h⟩, fun h => h.imp_right fun h => h.2⟩
  · rename_i h; exact ⟨.inl, fun h2 => h2.resolve_right fun h3 => h h3.1⟩

/-- who watches fewer -/
theorem WInv.fewer (I : WInv s) {W' : Int → List Nat} (hn : ∀ x, (W' x).Nodup) (hs : ∀ x, ∀ k ∈ W' x, k ∈ s.W x) (hk : ∀ x, ∀ k ∈ s.W x, ∀ e, s.cs[k]? = some e → e.gone = false → k ∈ W' x) : WInv { s with W := W' } where
  good := I.good
  lvs := I.lvs
  hv := I.hv
  cl := I.cl
  head := I.head
  todoN := I.todoN
  todoL := I.todoL
  wN := hn
  wL x k h := I.wL x k (hs x k h)
  w1 x k h e he hg := by
    obtain ⟨y, z, hp, hx⟩ := I.w1 x k (hs x k h) e he hg
    exact ⟨y, z, ⟨hp.ne, hp.l1, hp.l2, hk _ _ hp.m1 e he hg, hk _ _ hp.m2 e he hg⟩, hx⟩
  main k e he hg hn := by
    rcases I.main k e he hg hn with h | ⟨y, z, hp, h3, h4⟩
    · exact .inl h
    · exact .inr ⟨y, z, ⟨hp.ne, hp.l1, hp.l2, hk _ _ hp.m1 e he hg, hk _ _ hp.m2 e he hg⟩, h3, h4⟩
  rs := I.rs

/-- one that is gone -/
theorem FInv.gone {id : Nat} (F : FInv s lit (id :: rest)) (hg : ∀ e, s.cs[id]? = some e → e.gone = true) : FInv s lit rest where
  inv := by
    have := F.inv.fewer (W' := updW s.W lit (s.W lit ++ rest)) (fun x => ?_) (fun x k hk => ?_) (fun x k hk e he hge => ?_)
    · exact this
    · have hx := F.inv.wN x
      have hx' : (updW s.W lit (s.W lit ++ id :: rest) x).Nodup := hx
      unfold updW at hx' ⊢
      split
      · rename_i h
        rw [if_pos h] at hx'
        exact hx'.sublist (List.Sublist.append_left (List.sublist_cons_self _ _) _)
      · rename_i h
        rw [if_neg h] at hx'
        exact hx'
    · show k ∈ updW s.W lit (s.W lit ++ id :: rest) x
      unfold updW at hk ⊢
      split
      · rename_i h
        rw [if_pos h] at hk
        rw [List.mem_append, List.mem_cons]
        rw [List.mem_append] at hk
        exact hk.imp_right .inr
      · rename_i h; rw [if_neg h] at hk; exact hk
    · have hk' : k ∈ updW s.W lit (s.W lit ++ id :: rest) x := hk
      have he' : s.cs[k]? = some e := he
      unfold updW at hk' ⊢
      split
      · rename_i h
        rw [if_pos h, List.mem_append, List.mem_cons] at hk'
        rw [List.mem_append]
        refine hk'.imp_right fun h2 => h2.resolve_left fun h3 => ?_
        subst h3
        rw [hg e he'] at hge; cases hge
      · rename_i h; rw [if_neg h] at hk'; exact hk'
  hd := F.hd
  td := F.td
  kept := F.kept

/-- one that is there: it is watched at 'lit' and at another -/
theorem FInv.pair {id : Nat} {e : Ent} (F : FInv s lit (id :: rest)) (he : s.cs[id]? = some e) (hg : e.gone = false) : ∃ y z, e.a1 ≠ e.a2 ∧ e.lits[e.a1]? = some y ∧ e.lits[e.a2]? = some z ∧ y ≠ z ∧ (lit = y ∨ lit = z) ∧
    (y ≠ lit → id ∈ s.W y) ∧ (z ≠ lit → id ∈ s.W z) := by
  obtain ⟨y, z, hp, hx⟩ := F.inv.w1 lit id (F.mem.2 (.inr ⟨rfl, List.mem_cons_self ..⟩)) e he hg
  have hr := (F.inv.cl e (List.mem_of_getElem? he)).1
  refine ⟨y, z, hp.ne, hp.l1, hp.l2, rise_ne hr hp.l1 hp.l2 hp.ne, hx, fun hn => ?_, fun hn => ?_⟩
  · exact (F.mem.1 hp.m1).resolve_right fun h => hn h.1
  · exact (F.mem.1 hp.m2).resolve_right fun h => hn h.1

/-- it is kept -/
theorem FInv.keep {id : Nat} {e : Ent} (F : FInv s lit (id :: rest)) (he : s.cs[id]? = some e) (hs : Sat s.l e.lits) : FInv { s with W := updW s.W lit (s.W lit ++ [id]) } lit rest where
  inv := by
    show WInv { s with W := updW (updW s.W lit (s.W lit ++ [id])) lit (updW s.W lit (s.W lit ++ [id]) lit ++ rest) }
    rw [updW_same, updW_upd, List.append_assoc]
    exact F.inv
  hd := F.hd
  td := F.td
  kept k hk e' he' hg := by
    have hk' : k ∈ updW s.W lit (s.W lit ++ [id]) lit := hk
    rw [updW_same, List.mem_append, List.mem_singleton] at hk'
    rcases hk' with h | rfl
    · exact F.kept k h e' he' hg
    · rw [he] at he'; cases he'; exact hs

/-- it is kept, and its other literal pushed -/
theorem FInv.keepPush {id : Nat} {e : Ent} {x : Int} (F : FInv s lit (id :: rest)) (he : s.cs[id]? = some e) (hg : e.gone = false) (hu : UnitAt s.l e.lits x) (hid : id < 2 ^ 62) :
    FInv { s with l := s.l ++ [⟨x, id, s.level⟩], W := updW s.W lit (s.W lit ++ [id]) } lit rest := by
  have hc := (F.inv.cl e (List.mem_of_getElem? he)).2 x hu.1
  have hf : find s.l x.natAbs = none := by
    cases h : find s.l x.natAbs with
    | none => rfl
    | some k =>
      obtain ⟨t, ht, h2, _⟩ := find_some h
      have := tr_at F.inv.good ht (x := x) h2.symm
      rw [hu.2.1] at this
      split at this <;> omega
  have G := F.inv.grow (t := ⟨x, id, s.level⟩) (n := s.level) hf hc.1 hc.2 (.push x id F.inv.lvs) (fun _ => ⟨e, by show s.cs[((id : Nat) : Int).toNat]? = _; rw [Int.toNat_natCast]; exact he, hg, hu⟩)
  refine ⟨?_, ?_, F.td, fun k hk e' he' hg' => ?_⟩
  · show WInv { s with l := s.l ++ [⟨x, id, s.level⟩], W := updW (updW s.W lit (s.W lit ++ [id])) lit (updW s.W lit (s.W lit ++ [id]) lit ++ rest) }
    rw [updW_same, updW_upd, List.append_assoc]
    exact G
  · show (lits (s.l ++ [_]))[s.head]? = _
    rw [lits_push, List.getElem?_append_left (List.getElem?_eq_some_iff.1 F.hd).1]; exact F.hd
  · have hk' : k ∈ updW s.W lit (s.W lit ++ [id]) lit := hk
    rw [updW_same, List.mem_append, List.mem_singleton] at hk'
    rcases hk' with h | rfl
    · exact (F.kept k h e' he' hg').mono _
    · have he'' : s.cs[k]? = some e' := he'
      rw [he] at he''; cases he''
      exact ⟨x, hu.1, tr_one.2 (by show x ∈ lits (s.l ++ [_]); rw [lits_push]; exact List.mem_append_right _ (List.mem_singleton.2 rfl))⟩

/-- it fails -/
theorem FInv.fail {id : Nat} (F : FInv s lit (id :: rest)) : WInv { s with W := updW (updW s.W lit (s.W lit ++ [id])) lit ((s.W lit ++ [id]) ++ rest) } := by
  rw [updW_upd, List.append_assoc]
  exact F.inv

/-- all were gone through -/
theorem FInv.done (F : FInv s lit []) : WInv { s with head := s.head + 1 } := by
  have I := F.inv
  have hW : updW s.W lit (s.W lit ++ []) = s.W := by rw [List.append_nil, updW_id]
  rw [hW] at I
  have hlt := (List.getElem?_eq_some_iff.1 F.hd).1
  unfold lits at hlt
  rw [List.length_map] at hlt
  exact {
    good := I.good, lvs := I.lvs, hv := I.hv, cl := I.cl, head := hlt, todoN := I.todoN, todoL := I.todoL, wN := I.wN, wL := I.wL, w1 := I.w1, rs := I.rs
    main := fun id e he hg hn => by
      rcases I.main id e he hg hn with h | ⟨y, z, hp, h3, h4⟩
      · exact .inl h
      · have key : ∀ x, id ∈ s.W x → okW s.l s.head x → Sat s.l e.lits ∨ okW s.l (s.head + 1) x := by
          intro x hx ho
          rcases ho with h | ⟨k, hk, h⟩
          · exact .inr (.inl h)
          · by_cases ek : k = s.head
            · subst ek
              rw [F.hd] at h
              have : x = lit := by have := Option.some.inj h; omega
              subst this
              exact .inl (F.kept id hx e he hg)
            · exact .inr (.inr ⟨k, by omega, h⟩)
        rcases key y hp.m1 h3 with h | h
        · exact .inl h
        · rcases key z hp.m2 h4 with h' | h'
          · exact .inl h'
          · exact .inr ⟨y, z, hp, h, h'⟩ }

/-- it comes to be watched elsewhere -/
theorem FInv.move {id i j : Nat} {e : Ent} {y z : Int} (F : FInv s lit (id :: rest)) (he : s.cs[id]? = some e) (hg : e.gone = false) (hy : e.lits[i]? = some y) (hz : e.lits[j]? = some z) (hyz : y ≠ z) (hyl : y ≠ lit) (hzl : z ≠ lit)
    (hyW : id ∈ s.W y) (hzW : ∀ w, (e.lits[e.a1]? = some w ∨ e.lits[e.a2]? = some w) → w ≠ z) (tz : trI s.l z ≠ -1) : FInv { s with cs := setE s.cs id i j, W := updW s.W z (s.W z ++ [id]) } lit rest := by
  have I := F.inv
  have hij : i ≠ j := fun h => hyz (by subst h; rw [hy] at hz; exact Option.some.inj hz)
  have hidn : id ∉ s.W z := fun h => by
    obtain ⟨u, v, hp, hx⟩ := I.w1 z id (F.mem.2 (.inl h)) e he hg
    rcases hx with rfl | rfl
    · exact hzW _ (.inl hp.l1) rfl
    · exact hzW _ (.inr hp.l2) rfl
  have hWl : updW s.W z (s.W z ++ [id]) lit = s.W lit := updW_other _ _ (Ne.symm hzl)
  have hndl := I.wN lit
  have hndl' : (updW s.W lit (s.W lit ++ id :: rest) lit).Nodup := hndl
  rw [updW_same] at hndl'
  have hidl : id ∉ s.W lit ∧ id ∉ rest := by
    rw [List.nodup_append] at hndl'
    exact ⟨fun h => hndl'.2.2 id h id (List.mem_cons_self ..) rfl, (List.nodup_cons.1 hndl'.2.1).1⟩
  -- who watches now, of all
  have hmem : ∀ x k, k ∈ updW (updW s.W z (s.W z ++ [id])) lit (updW s.W z (s.W z ++ [id]) lit ++ rest) x ↔ (k ∈ updW s.W lit (s.W lit ++ id :: rest) x ∧ ¬ (k = id ∧ x = lit)) ∨ (k = id ∧ x = z) := by
    intro x k
    rw [hWl]
    unfold updW
    by_cases h1 : x = lit
    · subst h1
      rw [if_pos rfl, if_pos rfl, List.mem_append, List.mem_append, List.mem_cons]
      constructor
      · intro h
        refine .inl ⟨h.imp_right .inr, fun h2 => ?_⟩
        obtain ⟨rfl, _⟩ := h2
        exact h.elim hidl.1 hidl.2
      · rintro (⟨h, h2⟩ | ⟨_, h2⟩)
        · rcases h with h | h | h
          · exact .inl h
          · exact absurd ⟨h, rfl⟩ h2
          · exact .inr h
        · exact absurd h2.symm hzl
    · rw [if_neg h1, if_neg h1]
      by_cases h2 : x = z
      · subst h2
        rw [if_pos rfl, List.mem_append, List.mem_singleton]
        constructor
        · rintro (h | h)
          · exact .inl ⟨h, fun h3 => h1 h3.2⟩
          · exact .inr ⟨h, rfl⟩
        · rintro (⟨h, _⟩ | ⟨h, _⟩)
          · exact .inl h
          · exact .inr h
      · rw [if_neg h2]
        exact ⟨fun h => .inl ⟨h, fun h3 => h1 h3.2⟩, fun h => h.elim (fun h => h.1) fun h => absurd h.2 h2⟩
  have pair_id : Pair (updW (updW s.W z (s.W z ++ [id])) lit (updW s.W z (s.W z ++ [id]) lit ++ rest)) id { e with a1 := i, a2 := j } y z :=
    ⟨hij, hy, hz, (hmem _ _).2 (.inl ⟨F.mem.2 (.inl hyW), fun h => hyl h.2⟩), (hmem _ _).2 (.inr ⟨rfl, rfl⟩)⟩
  have pair_up : ∀ {k : Nat} {e' : Ent} {u v : Int}, k ≠ id → Pair (updW s.W lit (s.W lit ++ id :: rest)) k e' u v → Pair (updW (updW s.W z (s.W z ++ [id])) lit (updW s.W z (s.W z ++ [id]) lit ++ rest)) k e' u v := fun hk hp =>
    ⟨hp.ne, hp.l1, hp.l2, (hmem _ _).2 (.inl ⟨hp.m1, fun h => hk h.1⟩), (hmem _ _).2 (.inl ⟨hp.m2, fun h => hk h.1⟩)⟩
  have htd := F.td
  -- the other literal isn't false, or is pending; or the clause holds
  have hoky : Sat s.l e.lits ∨ okW s.l s.head y := by
    rcases I.main id e he hg (by show id ∉ s.todo; rw [htd]; exact List.not_mem_nil) with h | ⟨u, v, hp, h3, h4⟩
    · exact .inl h
    · obtain ⟨u', v', hp', hx⟩ := I.w1 y id (F.mem.2 (.inl hyW)) e he hg
      have e1 : u = u' := by have := hp.l1; rw [hp'.l1] at this; exact (Option.some.inj this).symm
      have e2 : v = v' := by have := hp.l2; rw [hp'.l2] at this; exact (Option.some.inj this).symm
      subst e1 e2
      rcases hx with rfl | rfl
      · exact .inr h3
      · exact .inr h4
  refine ⟨?_, F.hd, F.td, fun k hk e' he' hg' => ?_⟩
  · exact {
      good := I.good
      lvs := I.lvs
      hv := I.hv
      cl := fun e' he' => by
        obtain ⟨k, hk⟩ := List.getElem?_of_mem he'
        obtain ⟨e0, h0, h1, _⟩ := setE_back he hk
        rw [← h1]; exact I.cl e0 (List.mem_of_getElem? h0)
      head := I.head
      todoN := I.todoN
      todoL := fun k hk => by show k < (setE s.cs id i j).length; rw [setE_len]; exact I.todoL k hk
      wN := fun x => by
        show (updW (updW s.W z (s.W z ++ [id])) lit (updW s.W z (s.W z ++ [id]) lit ++ rest) x).Nodup
        rw [hWl]
        unfold updW
        by_cases h1 : x = lit
        · rw [if_pos h1]
          exact hndl'.sublist (List.Sublist.append_left (List.sublist_cons_self _ _) _)
        · rw [if_neg h1]
          have hx := I.wN x
          have hx' : (updW s.W lit (s.W lit ++ id :: rest) x).Nodup := hx
          rw [updW_other _ _ h1] at hx'
          by_cases h2 : x = z
          · subst h2
            rw [if_pos rfl, List.nodup_append]
            exact ⟨hx', by simp, fun a ha b hb => by rw [List.mem_singleton] at hb; subst hb; exact fun h => hidn (h ▸ ha)⟩
          · rw [if_neg h2]; exact hx'
      wL := fun x k hk => by
        show k < (setE s.cs id i j).length ∧ _
        rw [setE_len]
        rcases (hmem x k).1 hk with h | ⟨rfl, _⟩
        · exact I.wL x k h.1
        · exact ⟨(List.getElem?_eq_some_iff.1 he).1, by show k ∉ s.todo; rw [htd]; exact List.not_mem_nil⟩
      w1 := fun x k hk e' he' hg' => by
        obtain ⟨e0, h0, h1, h2, h3, h4⟩ := setE_back he he'
        by_cases hki : k = id
        · subst hki
          rw [setE_at he, if_pos rfl] at he'
          cases he'
          refine ⟨y, z, pair_id, ?_⟩
          rcases (hmem x k).1 hk with ⟨h, h5⟩ | ⟨_, h⟩
          · obtain ⟨u, v, hp, hx⟩ := I.w1 x k h e he hg
            obtain ⟨u', v', hp', hy'⟩ := I.w1 y k (F.mem.2 (.inl hyW)) e he hg
            obtain ⟨u2, v2, hp2, hl'⟩ := I.w1 lit k (F.mem.2 (.inr ⟨rfl, List.mem_cons_self ..⟩)) e he hg
            have e1 : u = u' := by have := hp.l1; rw [hp'.l1] at this; exact (Option.some.inj this).symm
            have e2 : v = v' := by have := hp.l2; rw [hp'.l2] at this; exact (Option.some.inj this).symm
            have e3 : u = u2 := by have := hp.l1; rw [hp2.l1] at this; exact (Option.some.inj this).symm
            have e4 : v = v2 := by have := hp.l2; rw [hp2.l2] at this; exact (Option.some.inj this).symm
            subst e1 e2 e3 e4
            have hxl : x ≠ lit := fun h6 => h5 ⟨rfl, h6⟩
            rcases hx with rfl | rfl <;> rcases hy' with h6 | h6 <;> rcases hl' with h7 | h7 <;> first
              | exact .inl h6.symm
              | exact absurd h7.symm hxl
              | exact absurd (h6.trans h7.symm) hyl
          · exact .inr h
        · have := h3 hki
          subst this
          have hk' : k ∈ updW s.W lit (s.W lit ++ id :: rest) x := ((hmem x k).1 hk).elim (fun h => h.1) fun h => absurd h.1 hki
          obtain ⟨u, v, hp, hx⟩ := I.w1 x k hk' e0 h0 hg'
          exact ⟨u, v, pair_up hki hp, hx⟩
      main := fun k e' he' hg' hk => by
        by_cases hki : k = id
        · subst hki
          rw [setE_at he, if_pos rfl] at he'
          cases he'
          rcases hoky with h | h
          · exact .inl h
          · exact .inr ⟨y, z, pair_id, h, .inl tz⟩
        · obtain ⟨e0, h0, h1, h2, h3, h4⟩ := setE_back he he'
          have := h3 hki
          subst this
          rcases I.main k e0 h0 hg' hk with h | ⟨u, v, hp, h5⟩
          · exact .inl h
          · exact .inr ⟨u, v, pair_up hki hp, h5⟩
      rs := fun k t hk hp => by
        obtain ⟨e0, h0, h1, h2⟩ := I.rs k t hk hp
        by_cases hki : t.rs.toNat = id
        · have h0' : s.cs[t.rs.toNat]? = some e0 := h0
          rw [hki, he] at h0'; cases h0'
          exact ⟨{ e with a1 := i, a2 := j }, by show (setE s.cs id i j)[_]? = _; rw [setE_at he, if_pos hki], h1, h2⟩
        · exact ⟨e0, by show (setE s.cs id i j)[_]? = _; rw [setE_at he, if_neg hki]; exact h0, h1, h2⟩ }
  · have hk' : k ∈ updW s.W z (s.W z ++ [id]) lit := hk
    rw [hWl] at hk'
    have hki : k ≠ id := fun h => hidl.1 (h ▸ hk')
    obtain ⟨e0, h0, h1, h2, h3, h4⟩ := setE_back he he'
    rw [← h1]
    exact F.kept k hk' e0 h0 (h2.trans hg')
end
end Xe
