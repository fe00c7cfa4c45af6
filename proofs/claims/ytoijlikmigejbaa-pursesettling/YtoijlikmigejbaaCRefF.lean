/- Walks: the reference's Append. -/
import Derived.Test.YtoijlikmigejbaaG06
import Derived.Deep.AppendSrc
import Derived.Test.YtoijlikmigejbaaG01
namespace Go.Proofs.Ytoijlikmigejbaa
open Go.RowKit Go.Proofs.Ytoijlikmigejbaa.Pu

/-- append(v, l...), v a row of its own -/
theorem run_append_sl (w : World) (base : Nat) (v : Value) (n : Nat) (xs : List Value) (hown : w.ownsRow base 24 8 v n xs) (ty : TypeId) (l : List Post) (m cap : Nat) (ao : Option Addr) (B : Nat) (hn : m = l.length) (hs : SlAt 8 pcells B w ao l)
    (had : ∀ ad, ao = some ad → ∃ b o, ad = ⟨b, o, none⟩) (hnm : n + m ≤ 1000000) (hbase : base ≤ w.heap.size) (hv : ∃ g c, v = .slice (some ⟨g, 0, none⟩) n c) :
    ∃ v' w', (Builtin.append_ #[22, 22] ty #[v, .slice ao m cap]).run Try.prog w = .ok v' w' ∧ w'.ownsRow base 24 8 v' (n + m) (xs ++ flat pcells l) ∧ w.grownBy w' v.ownBlock ∧ ∃ g c, v' = .slice (some ⟨g, 0, none⟩) (n + m) c := by
  obtain ⟨i0, hi, hz0, hz1, hz2⟩ := info_parts infoPost
  cases ao with
  | none =>
    have hl : l = [] := by
      rcases hs with h | ⟨b, o, h, _⟩
      · exact h
      · cases h
    subst hl
    simp only [List.length_nil] at hn
    subst hn
    obtain ⟨g, c, rfl⟩ := hv
    have hsrc : Src Try.prog i0.size 22 (.slice none 0 cap) 0 [] w := Src.ofNil w Try.underlying22 cap
    have hcap : n ≤ c := by
      obtain ⟨_, ⟨h, _⟩ | ⟨g', c', cur, h, _, _, h2, _⟩⟩ := hown
      · cases h
      · simp only [Value.slice.injEq] at h; rw [h.2.2]; exact h2
    have hr := run_append_room_src w 22 22 ty 24 i0 Try.underlying22 hi g 0 n c (.slice none 0 cap) 0 [] hsrc hcap (fun j hj => by simp at hj) (fun j hj => by simp at hj)
    refine ⟨_, _, hr, ?_, ?_, g, c, rfl⟩
    · simpa [flat, World.setCells] using hown
    · simp [World.setCells]
      exact ⟨rfl, rfl, rfl, Nat.le_refl _, fun _ _ _ => rfl⟩
  | some ad =>
    obtain ⟨b, o, rfl⟩ := had ad rfl
    obtain ⟨v', w', h1, h2, h3, h4, h5⟩ := run_append_own_at (P := Try.prog) w base 22 ty 24 i0 (pval zeroP) 8 64 Try.underlying22 hi hz0 hz1 hz2 rfl (by decide) v n xs hown ⟨b, o, none⟩ m cap (flat pcells l)
      (by rw [flat_length pcells_len, hn]) (hs.news pcells_len) (flat_cell pcells_cell l) (by unfold maxLen; omega) (by omega) hbase
    refine ⟨v', w', h1, h2, h3, ?_⟩
    obtain ⟨g, c, rfl⟩ := hv
    rcases h2.2 with ⟨h, _⟩ | ⟨g', c', _, h, _⟩
    · have := (h4.1 h).1; cases this
    · exact ⟨g', c', h⟩

theorem step_append_sl {ops : Array Oper} {o : Oper} {a : Act} {w : World} {K : Act → World → Prop} {Q : Exit → Act → World → Prop} {E : Prop} (hgd : o.guard = none) (s x : Operand) (v : Value) (l : List Post) (m cap : Nat) (ao : Option Addr)
    (ho : o.op = .call { callee := .builtin .append, args := #[s, x], argTypes := #[22, 22] }) (hs0 : a.eval s = v) (hx : a.eval x = .slice ao m cap)
    (base n : Nat) (xs : List Value) (hown : w.ownsRow base 24 8 v n xs) (B : Nat) (hn : m = l.length) (hs : SlAt 8 pcells B w ao l)
    (had : ∀ ad, ao = some ad → ∃ b o, ad = ⟨b, o, none⟩) (hnm : n + m ≤ 1000000) (hbase : base ≤ w.heap.size) (hv : ∃ g c, v = .slice (some ⟨g, 0, none⟩) n c)
    (h : ∀ g c w', w'.ownsRow base 24 8 (.slice (some ⟨g, 0, none⟩) (n + m) c) (n + m) (xs ++ flat pcells l) → w.grownBy w' v.ownBlock → K (a.put o.dst (.slice (some ⟨g, 0, none⟩) (n + m) c)) w') :
    if Region.wanted o (yielded ops a.tmps) = true then Oper.wp Try.prog o a w K Q else E := by
  have hw : Region.wanted o (yielded ops a.tmps) = true := by simp [Region.wanted, hgd]
  rw [if_pos hw]
  obtain ⟨v', w', hr, h2, h3, g, c, rfl⟩ := run_append_sl w base v n xs hown o.type l m cap ao B hn hs had hnm hbase hv
  unfold Oper.wp execOp
  simp only [ho, resolve, invoke, builtin, Sem.run_bind, Sem.run_pure, Result.andThen_ok, List.map_toArray, List.map_cons, List.map_nil, hs0, hx, hr]
  exact h g c w' h2 h3

theorem step_append_sl0 {ops : Array Oper} {o : Oper} {a : Act} {w : World} {K : Act → World → Prop} {Q : Exit → Act → World → Prop} {E : Prop} (hgd : o.guard = none) (s x : Operand) (g0 : Nat) (l : List Post) (m cap : Nat) (ao : Option Addr)
    (ho : o.op = .call { callee := .builtin .append, args := #[s, x], argTypes := #[22, 22] }) (hs0 : a.eval s = .slice (some ⟨g0, 0, none⟩) 0 0) (hx : a.eval x = .slice ao m cap)
    (base : Nat) (hown : w.ownsRow base 24 8 (.slice (some ⟨g0, 0, none⟩) 0 0) 0 []) (B : Nat) (hn : m = l.length) (hs : SlAt 8 pcells B w ao l)
    (had : ∀ ad, ao = some ad → ∃ b o, ad = ⟨b, o, none⟩) (hnm : m ≤ 1000000) (hbase : base ≤ w.heap.size)
    (h : ∀ g c w', w'.ownsRow base 24 8 (.slice (some ⟨g, 0, none⟩) m c) m (flat pcells l) → w.grownBy w' (some g0) → K (a.put o.dst (.slice (some ⟨g, 0, none⟩) m c)) w') :
    if Region.wanted o (yielded ops a.tmps) = true then Oper.wp Try.prog o a w K Q else E :=
  step_append_sl hgd s x _ l m cap ao ho hs0 hx base 0 [] hown B hn hs had (by omega) hbase ⟨g0, 0, rfl⟩ fun g c w' h1 h2 => by
    rw [Nat.zero_add, List.nil_append] at h1
    rw [Nat.zero_add]
    exact h g c w' h1 h2
theorem own_empty_at {w : World} {base g T k : Nat} (hg : w.heap[g]? = some (.cells #[] T)) (hb : base ≤ g) : w.ownsRow base T k (.slice (some ⟨g, 0, none⟩) 0 0) 0 [] :=
  ⟨by simp, .inr ⟨g, 0, #[], rfl, hb, hg, Nat.le_refl _, Nat.zero_le _, by simp, by simp⟩⟩
theorem two_first (w : World) (o1 o2 : Obj) : ((w.alloc o1).alloc o2).heap[w.heap.size]? = some o1 := by
  rw [Below.heap_alloc _ _ _ (by simp)]; exact heap_alloc_new w o1
theorem two_second (w : World) (o1 o2 : Obj) : ((w.alloc o1).alloc o2).heap[w.heap.size + 1]? = some o2 := by
  have := heap_alloc_new (w.alloc o1) o2
  rwa [show (w.alloc o1).heap.size = w.heap.size + 1 by simp] at this

set_option maxRecDepth 100000 in
set_option maxHeartbeats 4000000 in
theorem rAppend (l : List Post) (p : Post) (n cap : Nat) (ao : Option Addr) (B : Nat) (w : World) (hn : Hid (n = l.length)) (hm : n ≤ 100000) (hcap : n ≤ cap) (hs : SlAt 8 pcells B w ao l) (hB : B ≤ w.heap.size)
    (had : Hid (∀ ad, ao = some ad → ∃ b o, ad = ⟨b, o, none⟩)) :
    Calls Try.prog 13 #[.slice ao n cap, pval p] w (AppRes l p w) := by
  have hP := PBox.new w p 24
  have hBn : Below w.heap.size w (w.alloc (pobj p)) := (Below.refl _ _).alloc (Nat.le_refl _) _
  have hs2 := hs.below (hBn.mono hB)
  have hsz : (w.alloc (pobj p)).heap.size = w.heap.size + 1 := by simp
  go_enter Try.func13, Try.ntmps13
  go_wp2_with (fail)
  go_at_call 11
  refine (rCheck l n cap ao B (w.alloc (pobj p)) hn hm hcap hs2 (by omega)).mono ?_
  rintro e w1 ⟨rfl, hB1⟩
  have hP1 := hP.below hB1 (by omega)
  have hB2 := hBn.trans (hB1.mono (by omega))
  have hs3 := hs.below (hB2.mono hB)
  obtain ⟨b, hb⟩ : ∃ b, w.heap.size = b := ⟨_, rfl⟩
  rw [hb] at hP1 hsz hB2 hB ⊢
  replace hb := Lib.hid hb
  have hblt := hP1.lt
  have q0 := hP1.c0
  have q1 := hP1.c1
  have q2 := hP1.c2
  have q3 := hP1.c3
  have q4 := hP1.c4
  have q5 := hP1.c5
  have q6 := hP1.c6
  have q7 := hP1.c7
  clear hs hs2 hB1 hP hBn
  replace hP1 := Lib.hid hP1
  obtain ⟨i, hi⟩ : ∃ i, Hid ((check l).1 = i) := ⟨_, rfl⟩
  obtain ⟨r, hr⟩ : ∃ r, Hid ((check l).2 = r) := ⟨_, rfl⟩
  rw [hi.out, hr.out]
  by_cases hr0 : r = 0
  · subst hr0
    have hbook := check_zero hr.out
    have hamt := Book.amtOk hbook
    replace hbook := Lib.hid hbook
    obtain ⟨c, hc⟩ : ∃ c, Hid (refused l p = c) := ⟨_, rfl⟩
    by_cases hc0 : c = 0
    · subst hc0
      go_wp2_with (go_at_call 29; refine (rrefused l p n cap ao B _ hn hm hs3 hamt (by omega)).mono ?_; rintro e w2 ⟨he, hB3⟩; rw [hc.out] at he; subst he)
      have hP2 := hP1.out.below hB3 hblt
      have hB4 := hB2.trans (hB3.mono (Nat.le_of_lt hblt))
      have hs4 := hs3.below (hB3.mono (by omega : B ≤ w1.heap.size))
      have hlt := hP2.lt
      have hBw2 : B ≤ w2.heap.size := by omega
      clear q0 q1 q2 q3 q4 q5 q6 q7 hP1 hB3 hs3 hB2 hblt hamt
      clear w1
      obtain ⟨i0, hi0, hz0, hz1, hz2⟩ := info_parts infoPost
      replace hs4 := Lib.hid hs4
      replace hB4 := Lib.hid hB4
      have one : ∀ o : Obj, Below w2.heap.size w2 (w2.alloc o).drew := fun o => ((Below.refl _ _).alloc (Nat.le_refl _) o).drew
      have two : ∀ o o' : Obj, Below w2.heap.size w2 ((w2.alloc o).alloc o').drew := fun o o' => (((Below.refl _ _).alloc (Nat.le_refl _) o).alloc (by simp) o').drew
      replace one := Lib.hid one
      replace two := Lib.hid two
      refine wp_region_held_drew (S := (fun w' => w'.cell? ⟨b, 0, none⟩ = some (.int .i64 p.id) ∧ w'.cell? ⟨b, 1, none⟩ = some (.int .i64 p.hour) ∧ w'.cell? ⟨b, 2, none⟩ = some (.int .u8 p.kind) ∧ w'.cell? ⟨b, 3, none⟩ = some (.int .i64 p.party) ∧
                                        w'.cell? ⟨b, 4, none⟩ = some (.int .i64 p.parcel) ∧ w'.cell? ⟨b, 5, none⟩ = some (.int .i64 p.amount) ∧ w'.cell? ⟨b, 6, none⟩ = some (.int .i64 p.reason) ∧ w'.cell? ⟨b, 7, none⟩ = some (.int .i64 p.known))) (by kernel_rfl) ?_ (fun hHeld0 => ?_)
      · (try dsimp only); (first
                            | exact P8 (hP2.below (Below.refl _ _).drew hlt)
                            | exact P8 (hP2.below (one.out _) hlt)
                            | exact P8 (hP2.below (two.out _ _) hlt)
                            | exact P8 (hP2.below hB6 hlt)
                            | exact P8 (hP2.below hB5 hlt)
                            | exact P8 (hP2.below (hB5.alloc hB5.size _) hlt))
      refine xtake 1 (v := ?_) rfl (by kernel_rfl) (by kernel_rfl) (by kernel_rfl) rfl ?_ ?_ (by assumption) ?_
      rotate_left
      · intro w hSw; (try dsimp only at hSw); go_simp; with_reducible rfl
      · (exact fun _ _ _ hp => hp)
      try simp only [Act.put, List.setIfInBounds_toArray, List.set_cons_zero, List.set_cons_succ]
      refine xtake 3 (v := ?_) rfl (by kernel_rfl) (by kernel_rfl) (by kernel_rfl) rfl ?_ ?_ (by assumption) ?_
      rotate_left
      · intro w hSw; (try dsimp only at hSw); go_simp; with_reducible rfl
      · (exact fun _ _ _ hp => hp)
      try simp only [Act.put, List.setIfInBounds_toArray, List.set_cons_zero, List.set_cons_succ]
      refine wpAnyH_ready (rs := [0, 4]) (by kernel_rfl) (by simp) ?_
      refine xcons 0 rfl (fun K hK => ?_) ?_
      focus
        go_simp
        refine hK.out _ _ ?_ (fun hHeld1 => ?_)
        · (try dsimp only); (first
                              | exact P8 (hP2.below (Below.refl _ _).drew hlt)
                              | exact P8 (hP2.below (one.out _) hlt)
                              | exact P8 (hP2.below (two.out _ _) hlt)
                              | exact P8 (hP2.below hB6 hlt)
                              | exact P8 (hP2.below hB5 hlt)
                              | exact P8 (hP2.below (hB5.alloc hB5.size _) hlt))
        clear hK K
        try simp only [Act.put, List.setIfInBounds_toArray, List.set_cons_zero, List.set_cons_succ]
        (try clear hHeld0)
        refine wpAnyH_ready (rs := [2, 4]) (by kernel_rfl) (by simp) ?_
        refine xcons 2 rfl (fun K hK => ?_) ?_
        focus
          (first
            | (refine step_append_sl0 (by rfl) _ _ w2.heap.size l n cap ao (by rfl) (by rfl) (by rfl) w2.heap.size (own_empty_at (by first | exact heap_alloc_new w2 _ | exact two_first w2 _ _) (Nat.le_refl _)) B hn.out
                 (by first | exact hs4.out.below ((one.out _).mono hBw2) | exact hs4.out.below ((two.out _ _).mono hBw2)) had.out (by omega) (by simp; try omega) ?_
               intro g3 c3 w3 hown3 hgrow3
               have hB5 : Below w2.heap.size w2 w3 := Below.grown (by first | exact one.out _ | exact two.out _ _) hgrow3 (by simp; try omega) (fun k hk => by cases hk; omega))
            | (refine step_append_sl0 (by rfl) _ _ (w2.heap.size + 1) l n cap ao (by rfl) (by rfl) (by rfl) w2.heap.size (own_empty_at (two_second w2 _ _) (by omega)) B hn.out
                 (hs4.out.below ((two.out _ _).mono hBw2)) had.out (by omega) (by simp; try omega) ?_
               intro g3 c3 w3 hown3 hgrow3
               have hB5 : Below w2.heap.size w2 w3 := Below.grown (two.out _ _) hgrow3 (by simp; try omega) (fun k hk => by cases hk; omega))
            | (refine step_append_lies _ (by rfl) _ _ _ (by rfl) w2.heap.size 24 i0 _ 8 64 Try.underlying22 hi0 hz0 hz1 hz2 rfl (by omega) (.slice (some ⟨g3, 0, none⟩) n c3) n (flat pcells l) (by rfl) (hown3.alloc _) ⟨w3.heap.size, 0, none⟩ 1 1 (pcells p) (by rfl) rfl
                 (World.news_of_block (cs := (pcells p).toArray) (t := 24) (fr := (0, 0)) (heap_alloc_new w3 _)) (pcells_cell p) (by omega) (by unfold maxLen; omega) (by omega) (by have := hB5.size; simp at this ⊢; omega) _ rfl ?_
               intro g cap4 w4 hown4 hgrow4 hat4 hlt4
               have hB6 := (hB5.alloc hB5.size _).grown hgrow4 (by have := hB5.size; simp at this ⊢; omega) (own_far hown3))
            | (refine step_append_lies _ (by rfl) _ _ _ (by rfl) w2.heap.size 24 i0 _ 8 64 Try.underlying22 hi0 hz0 hz1 hz2 rfl (by omega) (.slice (some ⟨g3, 0, none⟩) n c3) n (flat pcells l) (by rfl) hown3 ⟨w2.heap.size + 1, 0, none⟩ 1 1 (pcells p) (by rfl) rfl
                 (World.news_of_block (cs := (pcells p).toArray) (t := 24) (fr := (0, 0)) ((hgrow3.block _ (by simp) (by simp)).trans (two_second w2 _ _))) (pcells_cell p) (by omega) (by unfold maxLen; omega) (by omega) (by have := hB5.size; simp at this ⊢; omega) _ rfl ?_
               intro g cap4 w4 hown4 hgrow4 hat4 hlt4
               have hB6 := hB5.grown hgrow4 hB5.size (own_far hown3))
            | (refine step_append_lies _ (by rfl) _ _ _ (by rfl) w2.heap.size 24 i0 _ 8 64 Try.underlying22 hi0 hz0 hz1 hz2 rfl (by omega) (.slice (some ⟨g3, 0, none⟩) n c3) n (flat pcells l) (by rfl) hown3 ⟨w2.heap.size, 0, none⟩ 1 1 (pcells p) (by rfl) rfl
                 (World.news_of_block (cs := (pcells p).toArray) (t := 24) (fr := (0, 0)) ((hgrow3.block _ (by simp; try omega) (by simp)).trans (two_first w2 _ _))) (pcells_cell p) (by omega) (by unfold maxLen; omega) (by omega) (by have := hB5.size; simp at this ⊢; omega) _ rfl ?_
               intro g cap4 w4 hown4 hgrow4 hat4 hlt4
               have hB6 := hB5.grown hgrow4 hB5.size (own_far hown3)))
          refine hK.out _ _ ?_ (fun hHeld2 => ?_)
          · (try dsimp only); (first
                                | exact P8 (hP2.below (Below.refl _ _).drew hlt)
                                | exact P8 (hP2.below (one.out _) hlt)
                                | exact P8 (hP2.below (two.out _ _) hlt)
                                | exact P8 (hP2.below hB6 hlt)
                                | exact P8 (hP2.below hB5 hlt)
                                | exact P8 (hP2.below (hB5.alloc hB5.size _) hlt))
          clear hK K
          try simp only [Act.put, List.setIfInBounds_toArray, List.set_cons_zero, List.set_cons_succ]
          (try clear hHeld1)
          refine wpAnyH_ready (rs := [4]) (by kernel_rfl) (by simp) ?_
          refine xcons 4 rfl (fun K hK => ?_) ?_
          focus
            go_simp
            refine hK.out _ _ ?_ (fun hHeld3 => ?_)
            · (try dsimp only); (first
                                  | exact P8 (hP2.below (Below.refl _ _).drew hlt)
                                  | exact P8 (hP2.below (one.out _) hlt)
                                  | exact P8 (hP2.below (two.out _ _) hlt)
                                  | exact P8 (hP2.below hB6 hlt)
                                  | exact P8 (hP2.below hB5 hlt)
                                  | exact P8 (hP2.below (hB5.alloc hB5.size _) hlt))
            clear hK K
            try simp only [Act.put, List.setIfInBounds_toArray, List.set_cons_zero, List.set_cons_succ]
            (try clear hHeld2)
            refine wpAnyH_ready (rs := [5]) (by kernel_rfl) (by simp) ?_
            refine xcons 5 rfl (fun K hK => ?_) ?_
            focus
              (first
                | (refine step_append_sl0 (by rfl) _ _ w2.heap.size l n cap ao (by rfl) (by rfl) (by rfl) w2.heap.size (own_empty_at (by first | exact heap_alloc_new w2 _ | exact two_first w2 _ _) (Nat.le_refl _)) B hn.out
                     (by first | exact hs4.out.below ((one.out _).mono hBw2) | exact hs4.out.below ((two.out _ _).mono hBw2)) had.out (by omega) (by simp; try omega) ?_
                   intro g3 c3 w3 hown3 hgrow3
                   have hB5 : Below w2.heap.size w2 w3 := Below.grown (by first | exact one.out _ | exact two.out _ _) hgrow3 (by simp; try omega) (fun k hk => by cases hk; omega))
                | (refine step_append_sl0 (by rfl) _ _ (w2.heap.size + 1) l n cap ao (by rfl) (by rfl) (by rfl) w2.heap.size (own_empty_at (two_second w2 _ _) (by omega)) B hn.out
                     (hs4.out.below ((two.out _ _).mono hBw2)) had.out (by omega) (by simp; try omega) ?_
                   intro g3 c3 w3 hown3 hgrow3
                   have hB5 : Below w2.heap.size w2 w3 := Below.grown (two.out _ _) hgrow3 (by simp; try omega) (fun k hk => by cases hk; omega))
                | (refine step_append_lies _ (by rfl) _ _ _ (by rfl) w2.heap.size 24 i0 _ 8 64 Try.underlying22 hi0 hz0 hz1 hz2 rfl (by omega) (.slice (some ⟨g3, 0, none⟩) n c3) n (flat pcells l) (by rfl) (hown3.alloc _) ⟨w3.heap.size, 0, none⟩ 1 1 (pcells p) (by rfl) rfl
                     (World.news_of_block (cs := (pcells p).toArray) (t := 24) (fr := (0, 0)) (heap_alloc_new w3 _)) (pcells_cell p) (by omega) (by unfold maxLen; omega) (by omega) (by have := hB5.size; simp at this ⊢; omega) _ rfl ?_
                   intro g cap4 w4 hown4 hgrow4 hat4 hlt4
                   have hB6 := (hB5.alloc hB5.size _).grown hgrow4 (by have := hB5.size; simp at this ⊢; omega) (own_far hown3))
                | (refine step_append_lies _ (by rfl) _ _ _ (by rfl) w2.heap.size 24 i0 _ 8 64 Try.underlying22 hi0 hz0 hz1 hz2 rfl (by omega) (.slice (some ⟨g3, 0, none⟩) n c3) n (flat pcells l) (by rfl) hown3 ⟨w2.heap.size + 1, 0, none⟩ 1 1 (pcells p) (by rfl) rfl
                     (World.news_of_block (cs := (pcells p).toArray) (t := 24) (fr := (0, 0)) ((hgrow3.block _ (by simp) (by simp)).trans (two_second w2 _ _))) (pcells_cell p) (by omega) (by unfold maxLen; omega) (by omega) (by have := hB5.size; simp at this ⊢; omega) _ rfl ?_
                   intro g cap4 w4 hown4 hgrow4 hat4 hlt4
                   have hB6 := hB5.grown hgrow4 hB5.size (own_far hown3))
                | (refine step_append_lies _ (by rfl) _ _ _ (by rfl) w2.heap.size 24 i0 _ 8 64 Try.underlying22 hi0 hz0 hz1 hz2 rfl (by omega) (.slice (some ⟨g3, 0, none⟩) n c3) n (flat pcells l) (by rfl) hown3 ⟨w2.heap.size, 0, none⟩ 1 1 (pcells p) (by rfl) rfl
                     (World.news_of_block (cs := (pcells p).toArray) (t := 24) (fr := (0, 0)) ((hgrow3.block _ (by simp; try omega) (by simp)).trans (two_first w2 _ _))) (pcells_cell p) (by omega) (by unfold maxLen; omega) (by omega) (by have := hB5.size; simp at this ⊢; omega) _ rfl ?_
                   intro g cap4 w4 hown4 hgrow4 hat4 hlt4
                   have hB6 := hB5.grown hgrow4 hB5.size (own_far hown3)))
              refine hK.out _ _ ?_ (fun hHeld4 => ?_)
              · (try dsimp only); (first
                                    | exact P8 (hP2.below (Below.refl _ _).drew hlt)
                                    | exact P8 (hP2.below (one.out _) hlt)
                                    | exact P8 (hP2.below (two.out _ _) hlt)
                                    | exact P8 (hP2.below hB6 hlt)
                                    | exact P8 (hP2.below hB5 hlt)
                                    | exact P8 (hP2.below (hB5.alloc hB5.size _) hlt))
              clear hK K
              try simp only [Act.put, List.setIfInBounds_toArray, List.set_cons_zero, List.set_cons_succ]
              (try clear hHeld3)
              refine xtake 6 (v := ?_) rfl (by kernel_rfl) (by kernel_rfl) (by kernel_rfl) rfl ?_ ?_ (by assumption) ?_
              rotate_left
              · intro w hSw; (try dsimp only at hSw); go_simp; with_reducible rfl
              · (exact fun _ _ _ hp => hp)
              try simp only [Act.put, List.setIfInBounds_toArray, List.set_cons_zero, List.set_cons_succ]
              refine xtake 7 (v := ?_) rfl (by kernel_rfl) (by kernel_rfl) (by kernel_rfl) rfl ?_ ?_ (by assumption) ?_
              rotate_left
              · intro w hSw; (try dsimp only at hSw); go_simp; with_reducible rfl
              · (exact fun _ _ _ hp => hp)
              try simp only [Act.put, List.setIfInBounds_toArray, List.set_cons_zero, List.set_cons_succ]
              refine wpAnyH_done (by kernel_rfl) ?_ _
              (revert hHeld4; intro _)
            rotate_left 1
            exact AllReadyH.nil
          rotate_left 1
          exact AllReadyH.nil
        rotate_left 1
        refine xcons 4 rfl (fun K hK => ?_) ?_
        focus
          go_simp
          refine hK.out _ _ ?_ (fun hHeld2 => ?_)
          · (try dsimp only); (first
                                | exact P8 (hP2.below (Below.refl _ _).drew hlt)
                                | exact P8 (hP2.below (one.out _) hlt)
                                | exact P8 (hP2.below (two.out _ _) hlt)
                                | exact P8 (hP2.below hB6 hlt)
                                | exact P8 (hP2.below hB5 hlt)
                                | exact P8 (hP2.below (hB5.alloc hB5.size _) hlt))
          clear hK K
          try simp only [Act.put, List.setIfInBounds_toArray, List.set_cons_zero, List.set_cons_succ]
          (try clear hHeld1)
          refine wpAnyH_ready (rs := [2]) (by kernel_rfl) (by simp) ?_
          refine xcons 2 rfl (fun K hK => ?_) ?_
          focus
            (first
              | (refine step_append_sl0 (by rfl) _ _ w2.heap.size l n cap ao (by rfl) (by rfl) (by rfl) w2.heap.size (own_empty_at (by first | exact heap_alloc_new w2 _ | exact two_first w2 _ _) (Nat.le_refl _)) B hn.out
                   (by first | exact hs4.out.below ((one.out _).mono hBw2) | exact hs4.out.below ((two.out _ _).mono hBw2)) had.out (by omega) (by simp; try omega) ?_
                 intro g3 c3 w3 hown3 hgrow3
                 have hB5 : Below w2.heap.size w2 w3 := Below.grown (by first | exact one.out _ | exact two.out _ _) hgrow3 (by simp; try omega) (fun k hk => by cases hk; omega))
              | (refine step_append_sl0 (by rfl) _ _ (w2.heap.size + 1) l n cap ao (by rfl) (by rfl) (by rfl) w2.heap.size (own_empty_at (two_second w2 _ _) (by omega)) B hn.out
                   (hs4.out.below ((two.out _ _).mono hBw2)) had.out (by omega) (by simp; try omega) ?_
                 intro g3 c3 w3 hown3 hgrow3
                 have hB5 : Below w2.heap.size w2 w3 := Below.grown (two.out _ _) hgrow3 (by simp; try omega) (fun k hk => by cases hk; omega))
              | (refine step_append_lies _ (by rfl) _ _ _ (by rfl) w2.heap.size 24 i0 _ 8 64 Try.underlying22 hi0 hz0 hz1 hz2 rfl (by omega) (.slice (some ⟨g3, 0, none⟩) n c3) n (flat pcells l) (by rfl) (hown3.alloc _) ⟨w3.heap.size, 0, none⟩ 1 1 (pcells p) (by rfl) rfl
                   (World.news_of_block (cs := (pcells p).toArray) (t := 24) (fr := (0, 0)) (heap_alloc_new w3 _)) (pcells_cell p) (by omega) (by unfold maxLen; omega) (by omega) (by have := hB5.size; simp at this ⊢; omega) _ rfl ?_
                 intro g cap4 w4 hown4 hgrow4 hat4 hlt4
                 have hB6 := (hB5.alloc hB5.size _).grown hgrow4 (by have := hB5.size; simp at this ⊢; omega) (own_far hown3))
              | (refine step_append_lies _ (by rfl) _ _ _ (by rfl) w2.heap.size 24 i0 _ 8 64 Try.underlying22 hi0 hz0 hz1 hz2 rfl (by omega) (.slice (some ⟨g3, 0, none⟩) n c3) n (flat pcells l) (by rfl) hown3 ⟨w2.heap.size + 1, 0, none⟩ 1 1 (pcells p) (by rfl) rfl
                   (World.news_of_block (cs := (pcells p).toArray) (t := 24) (fr := (0, 0)) ((hgrow3.block _ (by simp) (by simp)).trans (two_second w2 _ _))) (pcells_cell p) (by omega) (by unfold maxLen; omega) (by omega) (by have := hB5.size; simp at this ⊢; omega) _ rfl ?_
                 intro g cap4 w4 hown4 hgrow4 hat4 hlt4
                 have hB6 := hB5.grown hgrow4 hB5.size (own_far hown3))
              | (refine step_append_lies _ (by rfl) _ _ _ (by rfl) w2.heap.size 24 i0 _ 8 64 Try.underlying22 hi0 hz0 hz1 hz2 rfl (by omega) (.slice (some ⟨g3, 0, none⟩) n c3) n (flat pcells l) (by rfl) hown3 ⟨w2.heap.size, 0, none⟩ 1 1 (pcells p) (by rfl) rfl
                   (World.news_of_block (cs := (pcells p).toArray) (t := 24) (fr := (0, 0)) ((hgrow3.block _ (by simp; try omega) (by simp)).trans (two_first w2 _ _))) (pcells_cell p) (by omega) (by unfold maxLen; omega) (by omega) (by have := hB5.size; simp at this ⊢; omega) _ rfl ?_
                 intro g cap4 w4 hown4 hgrow4 hat4 hlt4
                 have hB6 := hB5.grown hgrow4 hB5.size (own_far hown3)))
            refine hK.out _ _ ?_ (fun hHeld3 => ?_)
            · (try dsimp only); (first
                                  | exact P8 (hP2.below (Below.refl _ _).drew hlt)
                                  | exact P8 (hP2.below (one.out _) hlt)
                                  | exact P8 (hP2.below (two.out _ _) hlt)
                                  | exact P8 (hP2.below hB6 hlt)
                                  | exact P8 (hP2.below hB5 hlt)
                                  | exact P8 (hP2.below (hB5.alloc hB5.size _) hlt))
            clear hK K
            try simp only [Act.put, List.setIfInBounds_toArray, List.set_cons_zero, List.set_cons_succ]
            (try clear hHeld2)
            refine wpAnyH_ready (rs := [5]) (by kernel_rfl) (by simp) ?_
            refine xcons 5 rfl (fun K hK => ?_) ?_
            focus
              (first
                | (refine step_append_sl0 (by rfl) _ _ w2.heap.size l n cap ao (by rfl) (by rfl) (by rfl) w2.heap.size (own_empty_at (by first | exact heap_alloc_new w2 _ | exact two_first w2 _ _) (Nat.le_refl _)) B hn.out
                     (by first | exact hs4.out.below ((one.out _).mono hBw2) | exact hs4.out.below ((two.out _ _).mono hBw2)) had.out (by omega) (by simp; try omega) ?_
                   intro g3 c3 w3 hown3 hgrow3
                   have hB5 : Below w2.heap.size w2 w3 := Below.grown (by first | exact one.out _ | exact two.out _ _) hgrow3 (by simp; try omega) (fun k hk => by cases hk; omega))
                | (refine step_append_sl0 (by rfl) _ _ (w2.heap.size + 1) l n cap ao (by rfl) (by rfl) (by rfl) w2.heap.size (own_empty_at (two_second w2 _ _) (by omega)) B hn.out
                     (hs4.out.below ((two.out _ _).mono hBw2)) had.out (by omega) (by simp; try omega) ?_
                   intro g3 c3 w3 hown3 hgrow3
                   have hB5 : Below w2.heap.size w2 w3 := Below.grown (two.out _ _) hgrow3 (by simp; try omega) (fun k hk => by cases hk; omega))
                | (refine step_append_lies _ (by rfl) _ _ _ (by rfl) w2.heap.size 24 i0 _ 8 64 Try.underlying22 hi0 hz0 hz1 hz2 rfl (by omega) (.slice (some ⟨g3, 0, none⟩) n c3) n (flat pcells l) (by rfl) (hown3.alloc _) ⟨w3.heap.size, 0, none⟩ 1 1 (pcells p) (by rfl) rfl
                     (World.news_of_block (cs := (pcells p).toArray) (t := 24) (fr := (0, 0)) (heap_alloc_new w3 _)) (pcells_cell p) (by omega) (by unfold maxLen; omega) (by omega) (by have := hB5.size; simp at this ⊢; omega) _ rfl ?_
                   intro g cap4 w4 hown4 hgrow4 hat4 hlt4
                   have hB6 := (hB5.alloc hB5.size _).grown hgrow4 (by have := hB5.size; simp at this ⊢; omega) (own_far hown3))
                | (refine step_append_lies _ (by rfl) _ _ _ (by rfl) w2.heap.size 24 i0 _ 8 64 Try.underlying22 hi0 hz0 hz1 hz2 rfl (by omega) (.slice (some ⟨g3, 0, none⟩) n c3) n (flat pcells l) (by rfl) hown3 ⟨w2.heap.size + 1, 0, none⟩ 1 1 (pcells p) (by rfl) rfl
                     (World.news_of_block (cs := (pcells p).toArray) (t := 24) (fr := (0, 0)) ((hgrow3.block _ (by simp) (by simp)).trans (two_second w2 _ _))) (pcells_cell p) (by omega) (by unfold maxLen; omega) (by omega) (by have := hB5.size; simp at this ⊢; omega) _ rfl ?_
                   intro g cap4 w4 hown4 hgrow4 hat4 hlt4
                   have hB6 := hB5.grown hgrow4 hB5.size (own_far hown3))
                | (refine step_append_lies _ (by rfl) _ _ _ (by rfl) w2.heap.size 24 i0 _ 8 64 Try.underlying22 hi0 hz0 hz1 hz2 rfl (by omega) (.slice (some ⟨g3, 0, none⟩) n c3) n (flat pcells l) (by rfl) hown3 ⟨w2.heap.size, 0, none⟩ 1 1 (pcells p) (by rfl) rfl
                     (World.news_of_block (cs := (pcells p).toArray) (t := 24) (fr := (0, 0)) ((hgrow3.block _ (by simp; try omega) (by simp)).trans (two_first w2 _ _))) (pcells_cell p) (by omega) (by unfold maxLen; omega) (by omega) (by have := hB5.size; simp at this ⊢; omega) _ rfl ?_
                   intro g cap4 w4 hown4 hgrow4 hat4 hlt4
                   have hB6 := hB5.grown hgrow4 hB5.size (own_far hown3)))
              refine hK.out _ _ ?_ (fun hHeld4 => ?_)
              · (try dsimp only); (first
                                    | exact P8 (hP2.below (Below.refl _ _).drew hlt)
                                    | exact P8 (hP2.below (one.out _) hlt)
                                    | exact P8 (hP2.below (two.out _ _) hlt)
                                    | exact P8 (hP2.below hB6 hlt)
                                    | exact P8 (hP2.below hB5 hlt)
                                    | exact P8 (hP2.below (hB5.alloc hB5.size _) hlt))
              clear hK K
              try simp only [Act.put, List.setIfInBounds_toArray, List.set_cons_zero, List.set_cons_succ]
              (try clear hHeld3)
              refine xtake 6 (v := ?_) rfl (by kernel_rfl) (by kernel_rfl) (by kernel_rfl) rfl ?_ ?_ (by assumption) ?_
              rotate_left
              · intro w hSw; (try dsimp only at hSw); go_simp; with_reducible rfl
              · (exact fun _ _ _ hp => hp)
              try simp only [Act.put, List.setIfInBounds_toArray, List.set_cons_zero, List.set_cons_succ]
              refine xtake 7 (v := ?_) rfl (by kernel_rfl) (by kernel_rfl) (by kernel_rfl) rfl ?_ ?_ (by assumption) ?_
              rotate_left
              · intro w hSw; (try dsimp only at hSw); go_simp; with_reducible rfl
              · (exact fun _ _ _ hp => hp)
              try simp only [Act.put, List.setIfInBounds_toArray, List.set_cons_zero, List.set_cons_succ]
              refine wpAnyH_done (by kernel_rfl) ?_ _
              (revert hHeld4; intro _)
            rotate_left 1
            exact AllReadyH.nil
          rotate_left 1
          exact AllReadyH.nil
        rotate_left 1
        exact AllReadyH.nil
      rotate_left 2
      refine xcons 4 rfl (fun K hK => ?_) ?_
      focus
        go_simp
        refine hK.out _ _ ?_ (fun hHeld1 => ?_)
        · (try dsimp only); (first
                              | exact P8 (hP2.below (Below.refl _ _).drew hlt)
                              | exact P8 (hP2.below (one.out _) hlt)
                              | exact P8 (hP2.below (two.out _ _) hlt)
                              | exact P8 (hP2.below hB6 hlt)
                              | exact P8 (hP2.below hB5 hlt)
                              | exact P8 (hP2.below (hB5.alloc hB5.size _) hlt))
        clear hK K
        try simp only [Act.put, List.setIfInBounds_toArray, List.set_cons_zero, List.set_cons_succ]
        (try clear hHeld0)
        refine wpAnyH_ready (rs := [0]) (by kernel_rfl) (by simp) ?_
        refine xcons 0 rfl (fun K hK => ?_) ?_
        focus
          go_simp
          refine hK.out _ _ ?_ (fun hHeld2 => ?_)
          · (try dsimp only); (first
                                | exact P8 (hP2.below (Below.refl _ _).drew hlt)
                                | exact P8 (hP2.below (one.out _) hlt)
                                | exact P8 (hP2.below (two.out _ _) hlt)
                                | exact P8 (hP2.below hB6 hlt)
                                | exact P8 (hP2.below hB5 hlt)
                                | exact P8 (hP2.below (hB5.alloc hB5.size _) hlt))
          clear hK K
          try simp only [Act.put, List.setIfInBounds_toArray, List.set_cons_zero, List.set_cons_succ]
          (try clear hHeld1)
          refine wpAnyH_ready (rs := [2]) (by kernel_rfl) (by simp) ?_
          refine xcons 2 rfl (fun K hK => ?_) ?_
          focus
            (first
              | (refine step_append_sl0 (by rfl) _ _ w2.heap.size l n cap ao (by rfl) (by rfl) (by rfl) w2.heap.size (own_empty_at (by first | exact heap_alloc_new w2 _ | exact two_first w2 _ _) (Nat.le_refl _)) B hn.out
                   (by first | exact hs4.out.below ((one.out _).mono hBw2) | exact hs4.out.below ((two.out _ _).mono hBw2)) had.out (by omega) (by simp; try omega) ?_
                 intro g3 c3 w3 hown3 hgrow3
                 have hB5 : Below w2.heap.size w2 w3 := Below.grown (by first | exact one.out _ | exact two.out _ _) hgrow3 (by simp; try omega) (fun k hk => by cases hk; omega))
              | (refine step_append_sl0 (by rfl) _ _ (w2.heap.size + 1) l n cap ao (by rfl) (by rfl) (by rfl) w2.heap.size (own_empty_at (two_second w2 _ _) (by omega)) B hn.out
                   (hs4.out.below ((two.out _ _).mono hBw2)) had.out (by omega) (by simp; try omega) ?_
                 intro g3 c3 w3 hown3 hgrow3
                 have hB5 : Below w2.heap.size w2 w3 := Below.grown (two.out _ _) hgrow3 (by simp; try omega) (fun k hk => by cases hk; omega))
              | (refine step_append_lies _ (by rfl) _ _ _ (by rfl) w2.heap.size 24 i0 _ 8 64 Try.underlying22 hi0 hz0 hz1 hz2 rfl (by omega) (.slice (some ⟨g3, 0, none⟩) n c3) n (flat pcells l) (by rfl) (hown3.alloc _) ⟨w3.heap.size, 0, none⟩ 1 1 (pcells p) (by rfl) rfl
                   (World.news_of_block (cs := (pcells p).toArray) (t := 24) (fr := (0, 0)) (heap_alloc_new w3 _)) (pcells_cell p) (by omega) (by unfold maxLen; omega) (by omega) (by have := hB5.size; simp at this ⊢; omega) _ rfl ?_
                 intro g cap4 w4 hown4 hgrow4 hat4 hlt4
                 have hB6 := (hB5.alloc hB5.size _).grown hgrow4 (by have := hB5.size; simp at this ⊢; omega) (own_far hown3))
              | (refine step_append_lies _ (by rfl) _ _ _ (by rfl) w2.heap.size 24 i0 _ 8 64 Try.underlying22 hi0 hz0 hz1 hz2 rfl (by omega) (.slice (some ⟨g3, 0, none⟩) n c3) n (flat pcells l) (by rfl) hown3 ⟨w2.heap.size + 1, 0, none⟩ 1 1 (pcells p) (by rfl) rfl
                   (World.news_of_block (cs := (pcells p).toArray) (t := 24) (fr := (0, 0)) ((hgrow3.block _ (by simp) (by simp)).trans (two_second w2 _ _))) (pcells_cell p) (by omega) (by unfold maxLen; omega) (by omega) (by have := hB5.size; simp at this ⊢; omega) _ rfl ?_
                 intro g cap4 w4 hown4 hgrow4 hat4 hlt4
                 have hB6 := hB5.grown hgrow4 hB5.size (own_far hown3))
              | (refine step_append_lies _ (by rfl) _ _ _ (by rfl) w2.heap.size 24 i0 _ 8 64 Try.underlying22 hi0 hz0 hz1 hz2 rfl (by omega) (.slice (some ⟨g3, 0, none⟩) n c3) n (flat pcells l) (by rfl) hown3 ⟨w2.heap.size, 0, none⟩ 1 1 (pcells p) (by rfl) rfl
                   (World.news_of_block (cs := (pcells p).toArray) (t := 24) (fr := (0, 0)) ((hgrow3.block _ (by simp; try omega) (by simp)).trans (two_first w2 _ _))) (pcells_cell p) (by omega) (by unfold maxLen; omega) (by omega) (by have := hB5.size; simp at this ⊢; omega) _ rfl ?_
                 intro g cap4 w4 hown4 hgrow4 hat4 hlt4
                 have hB6 := hB5.grown hgrow4 hB5.size (own_far hown3)))
            refine hK.out _ _ ?_ (fun hHeld3 => ?_)
            · (try dsimp only); (first
                                  | exact P8 (hP2.below (Below.refl _ _).drew hlt)
                                  | exact P8 (hP2.below (one.out _) hlt)
                                  | exact P8 (hP2.below (two.out _ _) hlt)
                                  | exact P8 (hP2.below hB6 hlt)
                                  | exact P8 (hP2.below hB5 hlt)
                                  | exact P8 (hP2.below (hB5.alloc hB5.size _) hlt))
            clear hK K
            try simp only [Act.put, List.setIfInBounds_toArray, List.set_cons_zero, List.set_cons_succ]
            (try clear hHeld2)
            refine wpAnyH_ready (rs := [5]) (by kernel_rfl) (by simp) ?_
            refine xcons 5 rfl (fun K hK => ?_) ?_
            focus
              (first
                | (refine step_append_sl0 (by rfl) _ _ w2.heap.size l n cap ao (by rfl) (by rfl) (by rfl) w2.heap.size (own_empty_at (by first | exact heap_alloc_new w2 _ | exact two_first w2 _ _) (Nat.le_refl _)) B hn.out
                     (by first | exact hs4.out.below ((one.out _).mono hBw2) | exact hs4.out.below ((two.out _ _).mono hBw2)) had.out (by omega) (by simp; try omega) ?_
                   intro g3 c3 w3 hown3 hgrow3
                   have hB5 : Below w2.heap.size w2 w3 := Below.grown (by first | exact one.out _ | exact two.out _ _) hgrow3 (by simp; try omega) (fun k hk => by cases hk; omega))
                | (refine step_append_sl0 (by rfl) _ _ (w2.heap.size + 1) l n cap ao (by rfl) (by rfl) (by rfl) w2.heap.size (own_empty_at (two_second w2 _ _) (by omega)) B hn.out
                     (hs4.out.below ((two.out _ _).mono hBw2)) had.out (by omega) (by simp; try omega) ?_
                   intro g3 c3 w3 hown3 hgrow3
                   have hB5 : Below w2.heap.size w2 w3 := Below.grown (two.out _ _) hgrow3 (by simp; try omega) (fun k hk => by cases hk; omega))
                | (refine step_append_lies _ (by rfl) _ _ _ (by rfl) w2.heap.size 24 i0 _ 8 64 Try.underlying22 hi0 hz0 hz1 hz2 rfl (by omega) (.slice (some ⟨g3, 0, none⟩) n c3) n (flat pcells l) (by rfl) (hown3.alloc _) ⟨w3.heap.size, 0, none⟩ 1 1 (pcells p) (by rfl) rfl
                     (World.news_of_block (cs := (pcells p).toArray) (t := 24) (fr := (0, 0)) (heap_alloc_new w3 _)) (pcells_cell p) (by omega) (by unfold maxLen; omega) (by omega) (by have := hB5.size; simp at this ⊢; omega) _ rfl ?_
                   intro g cap4 w4 hown4 hgrow4 hat4 hlt4
                   have hB6 := (hB5.alloc hB5.size _).grown hgrow4 (by have := hB5.size; simp at this ⊢; omega) (own_far hown3))
                | (refine step_append_lies _ (by rfl) _ _ _ (by rfl) w2.heap.size 24 i0 _ 8 64 Try.underlying22 hi0 hz0 hz1 hz2 rfl (by omega) (.slice (some ⟨g3, 0, none⟩) n c3) n (flat pcells l) (by rfl) hown3 ⟨w2.heap.size + 1, 0, none⟩ 1 1 (pcells p) (by rfl) rfl
                     (World.news_of_block (cs := (pcells p).toArray) (t := 24) (fr := (0, 0)) ((hgrow3.block _ (by simp) (by simp)).trans (two_second w2 _ _))) (pcells_cell p) (by omega) (by unfold maxLen; omega) (by omega) (by have := hB5.size; simp at this ⊢; omega) _ rfl ?_
                   intro g cap4 w4 hown4 hgrow4 hat4 hlt4
                   have hB6 := hB5.grown hgrow4 hB5.size (own_far hown3))
                | (refine step_append_lies _ (by rfl) _ _ _ (by rfl) w2.heap.size 24 i0 _ 8 64 Try.underlying22 hi0 hz0 hz1 hz2 rfl (by omega) (.slice (some ⟨g3, 0, none⟩) n c3) n (flat pcells l) (by rfl) hown3 ⟨w2.heap.size, 0, none⟩ 1 1 (pcells p) (by rfl) rfl
                     (World.news_of_block (cs := (pcells p).toArray) (t := 24) (fr := (0, 0)) ((hgrow3.block _ (by simp; try omega) (by simp)).trans (two_first w2 _ _))) (pcells_cell p) (by omega) (by unfold maxLen; omega) (by omega) (by have := hB5.size; simp at this ⊢; omega) _ rfl ?_
                   intro g cap4 w4 hown4 hgrow4 hat4 hlt4
                   have hB6 := hB5.grown hgrow4 hB5.size (own_far hown3)))
              refine hK.out _ _ ?_ (fun hHeld4 => ?_)
              · (try dsimp only); (first
                                    | exact P8 (hP2.below (Below.refl _ _).drew hlt)
                                    | exact P8 (hP2.below (one.out _) hlt)
                                    | exact P8 (hP2.below (two.out _ _) hlt)
                                    | exact P8 (hP2.below hB6 hlt)
                                    | exact P8 (hP2.below hB5 hlt)
                                    | exact P8 (hP2.below (hB5.alloc hB5.size _) hlt))
              clear hK K
              try simp only [Act.put, List.setIfInBounds_toArray, List.set_cons_zero, List.set_cons_succ]
              (try clear hHeld3)
              refine xtake 6 (v := ?_) rfl (by kernel_rfl) (by kernel_rfl) (by kernel_rfl) rfl ?_ ?_ (by assumption) ?_
              rotate_left
              · intro w hSw; (try dsimp only at hSw); go_simp; with_reducible rfl
              · (exact fun _ _ _ hp => hp)
              try simp only [Act.put, List.setIfInBounds_toArray, List.set_cons_zero, List.set_cons_succ]
              refine xtake 7 (v := ?_) rfl (by kernel_rfl) (by kernel_rfl) (by kernel_rfl) rfl ?_ ?_ (by assumption) ?_
              rotate_left
              · intro w hSw; (try dsimp only at hSw); go_simp; with_reducible rfl
              · (exact fun _ _ _ hp => hp)
              try simp only [Act.put, List.setIfInBounds_toArray, List.set_cons_zero, List.set_cons_succ]
              refine wpAnyH_done (by kernel_rfl) ?_ _
              (revert hHeld4; intro _)
            rotate_left 1
            exact AllReadyH.nil
          rotate_left 1
          exact AllReadyH.nil
        rotate_left 1
        exact AllReadyH.nil
      rotate_left 1
      exact AllReadyH.nil
      all_goals
        go_wp2
        refine bodyPost_ret (v := .tuple #[.slice (some ⟨g, 0, none⟩) (n + 1) cap4, .int .i64 0]) (by simp [results, Try.results13, go_sem]) rfl ?_
        refine ⟨?_, .inr ⟨?_, g, cap4, ?_, ?_⟩⟩
        · rw [hb.out]; exact hB4.out.trans (hB6.mono (Nat.le_of_lt hlt))
        · rw [appCode_book hbook.out]; exact hc.out
        · rw [← hn.out]
        · rw [← hn.out, hb.out]
          refine own_base (base := w2.heap.size) ?_ (Nat.le_of_lt hlt)
          rw [flat_app, flat_one]
          exact hown4
    · have hne : appCode l p = c := by rw [appCode_book hbook.out]; exact hc.out
      replace hne := Lib.hid hne
      have hr2 : (c != 0) = true := by simp [hc0]
      replace hc0 := Lib.hid hc0
      go_wp2_with (go_at_call 29; refine (rrefused l p n cap ao B _ hn hm hs3 hamt (by omega)).mono ?_; rintro e w2 ⟨he, hB3⟩; rw [hc.out] at he; subst he)
      refine bodyPost_ret (v := .tuple #[.slice none 0 0, .int .i64 c]) (by simp [results, Try.results13, go_sem]) rfl ?_
      refine ⟨?_, .inl ⟨by rw [hne.out]; exact hc0.out, by rw [hne.out]⟩⟩
      rw [hb.out]
      exact hB2.trans (hB3.mono (Nat.le_of_lt hblt))
  · have hcode := appCode_no (l := l) (by rw [hr.out]; exact hr0) p
    rw [hr.out] at hcode
    have hne2 : (r != 0) = true := by simp [hr0]
    have hne3 : (r == 0) = false := by simp [hr0]
    replace hcode := Lib.hid hcode
    replace hr0 := Lib.hid hr0
    go_wp2
    refine bodyPost_ret (v := .tuple #[.slice none 0 0, .int .i64 r]) (by simp [results, Try.results13, go_sem]) rfl ?_
    exact ⟨by rw [hb.out]; exact hB2, .inl ⟨by rw [hcode.out]; exact hr0.out, by rw [hcode.out]⟩⟩
end Go.Proofs.Ytoijlikmigejbaa
