/-
  The pool: New, Len: contracts over addresses.
-/
import Derived.Test.YtbcleeifkmjlmaaPoolG
namespace Go.Proofs.Ytbcleeifkmjlmaa
open Go.RowKit
set_option maxRecDepth 100000
set_option maxHeartbeats 2000000

section
variable {B : Nat} {w0 w w' : World} {W : Nat} {s : PoS} {A C : List PoP} {x : PoP}
/-- One P more. -/
theorem Rep.grow (h : Rep B w0 w W s) {fv ev pv' : Value} {F : Nat → Prop} (p3 : OwnP w B 23 fv s.full) (p4 : OwnP w B 23 ev s.emp) (p5 : Dis fv ev)
    (hc : Cel w' W 61 #[pv', fv, ev]) (hp : OwnP w' B 62 pv' ((s.ps ++ [x]).map (·.a))) (hx : Cel w' x.a 64 #[ptr x.o, ptr x.t, .bool x.f]) (ho : BufAt w' x.o (s.con x.o)) (ht : BufAt w' x.t (s.con x.t))
    (xa : w.heap.size ≤ x.a) (xo : w.heap.size ≤ x.o) (xt : w.heap.size ≤ x.t) (hu : Upd F w w') (hF : ∀ q, F q → B ≤ q ∧ ∃ t cs, Cel w q t cs ∧ t ≠ 64 ∧ t ≠ 56 ∧ t ≠ 23) (hk : Below B w0 w' → Keeps w0 w') :
    Rep B w0 w' W { s with ps := s.ps ++ [x] } := by
  have hb : Below B w0 w' := below_upd h.below.1 hu h.size (fun q e => (hF q e).1)
  have keepP : ∀ y ∈ s.ps, Cel w' y.a 64 #[ptr y.o, ptr y.t, .bool y.f] := fun y hy => by
    have hy' := h.pairs y hy
    exact hu.cel hy' (fun e => by obtain ⟨_, t, cs, c1, c2, _⟩ := hF _ e; exact c1.ne hy' c2 rfl)
  have keepB : ∀ g, g ∈ allB s → BufAt w' g (s.con g) := fun g hg => by
    have h1 := h.bufs g hg
    have h1' := h1
    obtain ⟨_, b1, _⟩ := h1'
    exact h1.upd hu (fun e => by obtain ⟨_, t, cs, c1, _, c3, _⟩ := hF _ e; exact c1.ne b1 c3 rfl)
  have hmem : ∀ g ∈ allB { s with ps := s.ps ++ [x] }, g ∈ allB s ∨ g = x.o ∨ g = x.t := fun g hg => by
    unfold allB bufsP at hg ⊢
    simp only [List.flatMap_append, List.mem_append, List.flatMap_cons, List.flatMap_nil, List.append_nil, List.mem_cons, List.not_mem_nil, or_false] at hg ⊢
    rcases hg with (h | h) | h
    · exact .inl (.inl h)
    · exact .inr h
    · exact .inl (.inr h)
  have hp3 : OwnP w' B 23 fv s.full := p3.upd hu (fun b hb e => by obtain ⟨_, t, cs, c1, _, _, c4⟩ := hF _ e; exact p3.typed c1 c4 b hb rfl)
  have hp4 : OwnP w' B 23 ev s.emp := p4.upd hu (fun b hb e => by obtain ⟨_, t, cs, c1, _, _, c4⟩ := hF _ e; exact p4.typed c1 c4 b hb rfl)
  have hB := h.size
  refine ⟨⟨pv', fv, ev, hc, hp, hp3, hp4, p5⟩, fun y hy => ?_, fun g hg => ?_, ?_, h.WB, fun y hy => ?_, fun g hg => ?_, Nat.le_trans h.size hu.size, ⟨hb, hk hb⟩⟩
  · rcases List.mem_append.1 hy with hy | hy
    · exact keepP y hy
    · rw [List.mem_singleton.1 hy]; exact hx
  · rcases hmem g hg with hg | rfl | rfl
    · exact keepB g hg
    · exact ho
    · exact ht
  · show ((s.ps ++ [x]).map (·.a)).Nodup
    rw [List.map_append, List.nodup_append]
    refine ⟨h.pa, by simp, fun a ha b hb e => ?_⟩
    obtain ⟨y, hy, rfl⟩ := List.mem_map.1 ha
    have e2 : b = x.a := by simpa using hb
    have := (h.pairs y hy).lt
    omega
  · rcases List.mem_append.1 hy with hy | hy
    · exact h.aB y hy
    · rw [List.mem_singleton.1 hy]; omega
  · rcases hmem g hg with hg | rfl | rfl
    · exact h.gB g hg
    · omega
    · omega

theorem pool_new_not (w : World) (n : Int) (hn : n < 1 ∨ 64 < n) :
    Calls Try.prog 20 #[.int .i64 n] w fun e w' => e = .returned (.tuple #[.pointer none, .int .i64 1]) ∧ w = w' := by
  rcases hn with h | h
  · go_enter Try.func20, Try.ntmps20
    go_wp2
    go_ret2
    exact ⟨rfl, rfl⟩
  · have h1 : ¬ n < 1 := by omega
    go_enter Try.func20, Try.ntmps20
    go_wp2
    go_ret2
    exact ⟨rfl, rfl⟩
/-- What a new pool is. -/
def NewP (w : World) (n : Nat) (e : Ending) (w' : World) : Prop :=
  ∃ W ps, e = .returned (.tuple #[ptr W, .int .i64 0]) ∧ Rep w.heap.size w w' W ⟨ps, [], [], fun _ => []⟩ ∧ ps.length = n ∧ (allB ⟨ps, [], [], fun _ => []⟩).Nodup ∧ ∀ x ∈ ps, x.f = false
theorem pool_new (w : World) (n : Nat) (h1 : 1 ≤ n) (h2 : n ≤ 64) :
    Calls Try.prog 20 #[.int .i64 n] w (NewP w n) := by
  have i1 : ¬ (n : Int) < 1 := by omega
  have i2 : ¬ 64 < (n : Int) := by omega
  go_enter Try.func20, Try.ntmps20
  go_wp2_with fail
  clear i1 i2
  have hR : Rep w.heap.size w (w.alloc (.cells #[.slice none 0 0, .slice none 0 0, .slice none 0 0] 61)) w.heap.size ⟨[], [], [], fun _ => []⟩ :=
    ⟨⟨_, _, _, Cel.born _ _ _, OwnP.nil _ _ _, OwnP.nil _ _ _, OwnP.nil _ _ _, Dis.nil _⟩, fun x hx => (by cases hx), fun g hg => (by cases hg), List.nodup_nil, Nat.le_refl _, fun x hx => (by cases hx), fun g hg => (by cases hg), by simp, ⟨(Below.refl _ _).alloc (Nat.le_refl _) _, Keeps.ofBelow ((Below.refl _ _).alloc (Nat.le_refl _) _)⟩⟩
  obtain ⟨W, hW⟩ : ∃ W, W = w.heap.size := ⟨_, rfl⟩
  have HW := Lib.hid hW
  rw [← hW] at hR ⊢
  generalize w.alloc (.cells #[.slice none 0 0, .slice none 0 0, .slice none 0 0] 61) = w1 at hR ⊢
  clear hW
  go_loopg [14] n (fun q s14 ws => ∃ (i : Nat) (ps : List PoP), s14 = .int .i64 i ∧ i ≤ n ∧ n - i ≤ q ∧ Rep W w ws W ⟨ps, [], [], fun _ => []⟩ ∧ ps.length = i ∧ Hid ((allB ⟨ps, [], [], fun _ => []⟩).Nodup ∧ ∀ x ∈ ps, x.f = false))
  case atStart => exact ⟨0, [], rfl, by omega, by omega, hR, rfl, ⟨List.nodup_nil, fun x hx => by cases hx⟩⟩
  case round =>
    clear hR
    obtain ⟨i, ps, rfl, hi, hq, hR, hps, hG⟩ := hrel
    by_cases hlt : i < n
    · have j1 : (i : Int) < (n : Int) := by omega
      obtain ⟨pv, fv, ev, p1, p2, p3, p4, p5⟩ := hR.pool
      obtain ⟨a0, c0, rfl, _⟩ := p2.form
      have hlen : (List.map (·.a) (PoS.mk ps [] [] fun _ => []).ps).length = i := by simpa using hps
      rw [hlen] at p1 p2
      have P := Lib.hid (And.intro p1 (And.intro p2 (And.intro p3 (And.intro p4 (And.intro p5 (And.intro hlen (And.intro hR hps)))))))
      have hi64 : i ≤ 1000000 := by omega
      clear p2 p3 p4 p5 hlen hR hps
      go_upto_region 6 with fail
      have hne : Nonempty (Kept (fun y => Cel y W 61 #[.slice a0 i c0, fv, ev])) := ⟨⟨_, p1⟩⟩
      have r1 : ∀ y : Kept (fun y => Cel y W 61 #[.slice a0 i c0, fv, ev]), y.1.cell? ⟨W, 0, none⟩ = some (.slice a0 i c0) := fun y => y.2.cell 0
      refine wp_region_planZ [seg (fun y => Cel y W 61 #[.slice a0 i c0, fv, ev]) [13] [0, 1, 2, 3, 4] [5, 6, 7, 8, 9, 10, 11, 12, 13]] (by kernel_rfl) (by kernel_rfl) (fun _ _ _ _ _ h => h) ?_
      refine planZ_seg p1.drew ?_
      show wpQuiet _ _ _ _ (List.filterMap _ _) _
      simp only [List.filterMap_cons, List.filterMap_nil, List.getElem?_toArray, List.getElem?_cons_zero, List.getElem?_cons_succ]
      show wpQuiet _ _ _ _ [_, _, _, _, _] _
      repeat (go_big_quiet_step (fail))
      refine wpQuiet_nil ?_
      clear r1 hne
      have hb0 : Below wr.heap.size wr wr.drew := (Below.refl _ _).drew
      have hp1 : Cel wr.drew W 61 #[.slice a0 i c0, fv, ev] := p1.ofBelow hb0
      have HB := Lib.hid (And.intro hb0 hp1)
      clear p1 hb0 hp1
      generalize wr.drew = w2 at HB ⊢
      refine planZ_op (o := ⟨_, _, _, _, _, _⟩) rfl rfl fun K hK => ?_
      go_simp
      go_at_call 9
      refine (bnew_any _).mono ?_
      rintro e w3 ⟨rfl, hA3, hb3⟩
      have q3 := HB.out.2.ofBelow hb3
      refine hK _ _ (fun _ => ⟨⟨w3, q3⟩, rfl⟩) ?_
      clear hK K
      refine planZ_op (o := ⟨_, _, _, _, _, _⟩) rfl rfl fun K hK => ?_
      go_simp
      go_at_call 9
      refine (bnew_any _).mono ?_
      rintro e w4 ⟨rfl, hA4, hb4⟩
      have q4 := q3.ofBelow hb4
      have hA3' := hA3.ofBelow hb4
      have z1 := hA3.lt
      have z2 := hb3.size
      have z3 := hb4.size
      have hb24 := bx hb3 hb4
      refine hK _ _ (fun _ => ⟨⟨w4, q4⟩, rfl⟩) ?_
      clear hK K
      obtain ⟨go, hgo⟩ : ∃ go, go = w2.heap.size := ⟨_, rfl⟩
      obtain ⟨gt, hgt⟩ : ∃ gt, gt = w3.heap.size := ⟨_, rfl⟩
      rw [← hgo] at hA3 hA3' z1 ⊢
      rw [← hgt] at hA4 ⊢
      have Z := Lib.hid (show go < gt ∧ wr.heap.size ≤ go ∧ wr.heap.size ≤ w4.heap.size ∧ go = w2.heap.size ∧ gt = w3.heap.size by have := HB.out.1.size; omega)
      have Q4 := Lib.hid (And.intro q4 (And.intro hA3' (And.intro hA4 (bx HB.out.1 hb24))))
      clear q3 q4 hA3 hA3' hA4 z1 z2 z3 hb24 hb3 hb4 hgo hgt
      refine planZ_op (o := ⟨_, _, _, _, _, _⟩) rfl rfl fun K hK => ?_
      go_simp
      refine hK _ _ (fun _ => ⟨⟨w4, Q4.out.1⟩, rfl⟩) ?_
      clear hK K
      refine planZ_op (o := ⟨_, _, _, _, _, _⟩) rfl rfl fun K hK => ?_
      go_simp
      refine hK _ _ (fun _ => ⟨⟨_, Q4.out.1.alloc _⟩, rfl⟩) ?_
      clear hK K
      obtain ⟨a, ha⟩ : ∃ a, a = w4.heap.size := ⟨_, rfl⟩
      have hx5 := Cel.born w4 64 #[ptr go, ptr gt, .bool false]
      have hb5 : Below w4.heap.size w4 (w4.alloc (.cells #[ptr go, ptr gt, .bool false] 64)) := (Below.refl _ _).alloc (Nat.le_refl _) _
      have q5 := Q4.out.1.ofBelow hb5
      have hA5 := Q4.out.2.1.ofBelow hb5
      have hA5' := Q4.out.2.2.1.ofBelow hb5
      have hbw5 := bx Q4.out.2.2.2 hb5
      rw [← ha] at hx5 ⊢
      have haw : wr.heap.size ≤ a := by rw [ha]; exact Z.out.2.2.1
      have Q5 := Lib.hid (And.intro q5 (And.intro hA5 (And.intro hA5' (And.intro hbw5 (And.intro hx5 haw)))))
      clear hx5 hb5 q5 hA5 hA5' hbw5 ha Q4 haw
      generalize w4.alloc (.cells #[ptr go, ptr gt, .bool false] 64) = w5 at Q5 ⊢
      refine planZ_op (o := ⟨_, _, _, _, _, _⟩) rfl rfl fun K hK => ?_
      go_simp
      refine hK _ _ (fun _ => ⟨⟨_, Q5.out.1.alloc _⟩, rfl⟩) ?_
      clear hK K
      refine planZ_op (o := ⟨_, _, _, _, _, _⟩) rfl rfl fun K hK => ?_
      refine wp_append_ptr (B := W) (vs := .slice a0 i c0) (st := 58) (k := w5.heap.size) (g := a) (l := ps.map (·.a)) (.tmp 20) (.tmp 25) rfl rfl rfl Try.underlying58 info_pair_ptr ((P.out.2.1.ofBelow Q5.out.2.2.2.1).alloc _) ((Cel.born w5 62 #[ptr a]).cell 0) (by have := P.out.2.2.2.2.2.2.1.size; have := Q5.out.2.2.2.1.size; simp; omega) P.out.2.2.2.2.2.1 hi64 ?_
      intro a5 c5 w6 hown5 hg5 hat5
      have u6 : Upd (fun q => Value.ownBlock (.slice a0 i c0) = some q) w5 w6 := ((Upd.refl _ w5).alloc _).grown hg5 (fun q hq _ => hq)
      have tp : ∀ q t cs, Cel w5 q t cs → t ≠ 62 → Cel w6 q t cs := fun q t cs hc ht => u6.cel hc (fun e => (P.out.2.1.ofBelow Q5.out.2.2.2.1).typed hc ht _ e rfl)
      have q6 := tp _ _ _ Q5.out.1 (by decide)
      have hx6 := tp _ _ _ Q5.out.2.2.2.2.1 (by decide)
      have hb6 : ∀ g l, BufAt w5 g l → BufAt w6 g l := fun g l hl => by
        obtain ⟨cs, b1, b2⟩ := hl
        exact ⟨cs, tp _ _ _ b1 (by decide), b2⟩
      have Q6 := Lib.hid (And.intro q6 (And.intro hx6 (And.intro (hb6 _ _ Q5.out.2.1) (And.intro (hb6 _ _ Q5.out.2.2.1) (And.intro hown5 (And.intro ((Upd.ofBelow (F := fun q => q = W ∨ Value.ownBlock (.slice a0 i c0) = some q) Q5.out.2.2.2.1).trans (u6.mono (fun q hq _ => .inr hq))) Q5.out.2.2.2.2.2))))))
      have e1 := q6.free 0
      have f1 := q6.cell 0
      clear u6 tp q6 hx6 hb6 hown5 hg5 hat5
      refine hK _ _ (fun _ => ⟨⟨w6, Q6.out.1⟩, rfl⟩) ?_
      clear hK K
      refine planZ_op (o := ⟨_, _, _, _, _, _⟩) rfl rfl fun K hK => ?_
      go_simp
      refine hK _ _ (fun _ => ⟨⟨w6, Q6.out.1⟩, rfl⟩) ?_
      clear hK K
      refine planZ_op (o := ⟨_, _, _, _, _, _⟩) rfl rfl fun K hK => ?_
      go_simp
      refine hK _ _ (fun _ => ⟨⟨w6, Q6.out.1⟩, rfl⟩) ?_
      clear hK K
      refine planZ_op (o := ⟨_, _, _, _, _, _⟩) rfl rfl fun K hK => ?_
      go_simp
      refine hK _ _ (fun h => by cases h) ?_
      clear hK K
      unfold ChainZ PlanZ
      clear e1 f1
      have hR7 : Rep W w (w6.setCell ⟨W, 0, none⟩ (.slice a5 (i + 1) c5)) W ⟨ps ++ [⟨a, go, gt, false⟩], [], [], fun _ => []⟩ := by
        obtain ⟨q6, hx6, ho6, ht6, hown6, hu6, haw⟩ := Q6.out
        have uW : Upd (· = W) w6 (w6.setCell ⟨W, 0, none⟩ (.slice a5 (i + 1) c5)) := (Upd.refl (· = W) w6).sc (fun _ => rfl) _ _
        have keepB : ∀ g l, BufAt w6 g l → BufAt (w6.setCell ⟨W, 0, none⟩ (.slice a5 (i + 1) c5)) g l := fun g l hl => by
          obtain ⟨cs, b1, b2⟩ := hl
          exact ⟨cs, uW.cel b1 (fun e => b1.ne q6 (by decide) e), b2⟩
        refine P.out.2.2.2.2.2.2.1.grow (x := ⟨a, go, gt, false⟩) (F := fun q => q = W ∨ Value.ownBlock (.slice a0 i c0) = some q) P.out.2.2.1 P.out.2.2.2.1 P.out.2.2.2.2.1 (q6.put 0 _) ?_ (uW.cel hx6 (fun e => hx6.ne q6 (by decide) e)) (keepB _ _ ho6) (keepB _ _ ht6) haw Z.out.2.1 (Nat.le_trans Z.out.2.1 (Nat.le_of_lt Z.out.1)) (hu6.trans (uW.mono (fun q hq _ => .inl hq))) ?_ (fun hb => Keeps.ofBelow (by rw [← HW.out]; exact hb))
        · have := hown6.upd uW (hown6.typed q6 (by decide))
          show OwnP _ _ _ _ ((ps ++ [(⟨a, go, gt, false⟩ : PoP)]).map (fun y : PoP => y.a))
          simpa using this
        · rintro q (rfl | e)
          · exact ⟨Nat.le_refl _, _, _, P.out.1, by decide, by decide, by decide⟩
          · rcases P.out.2.1.blk with ⟨e', _⟩ | ⟨g, cap, cs, e', gB, c1, _⟩
            · rw [e'] at e; cases e
            · rw [e'] at e
              have : g = q := Option.some.inj e
              subst this
              exact ⟨gB, _, _, c1, by decide, by decide, by decide⟩
      have hG7 : Hid ((allB ⟨ps ++ [⟨a, go, gt, false⟩], [], [], fun _ => []⟩).Nodup ∧ ∀ x ∈ ps ++ [⟨a, go, gt, false⟩], x.f = false) := by
        refine ⟨?_, fun x hx => ?_⟩
        · have hold := hG.out.1
          have hlt2 : ∀ g ∈ bufsP ps, g < wr.heap.size := fun g hg => (P.out.2.2.2.2.2.2.1.bufs g (by unfold allB; simpa using hg)).lt
          unfold allB at hold ⊢
          simp only [List.append_nil] at hold ⊢
          show (bufsP (ps ++ [⟨a, go, gt, false⟩])).Nodup
          unfold bufsP at hold hlt2 ⊢
          rw [List.flatMap_append, List.nodup_append]
          refine ⟨hold, ?_, fun u hu v hv e => ?_⟩
          · have := Z.out.1
            simp; omega
          · have h1 := hlt2 u hu
            have h2 := Z.out.1
            have h3 := Z.out.2.1
            simp at hv
            omega
        · rcases List.mem_append.1 hx with hx | hx
          · exact hG.out.2 x hx
          · rw [List.mem_singleton.1 hx]
      have H7 := Lib.hid (And.intro hR7 (show (ps ++ [(⟨a, go, gt, false⟩ : PoP)]).length = i + 1 by have := P.out.2.2.2.2.2.2.2; simp; exact this))
      clear hR7
      go_wp2_with fail
      go_roundg (n - (i + 1))
      case measure => omega
      case rel => exact ⟨i + 1, _, by go_num, by omega, Nat.le_refl _, H7.out.1, H7.out.2, hG7⟩
    · obtain rfl : i = n := by omega
      have H := Lib.hid (And.intro hR hps)
      clear hR hps
      go_wp2_with fail
      go_ret2
      exact ⟨W, ps, rfl, by rw [← HW.out]; exact H.out.1, H.out.2, hG.out.1, hG.out.2⟩
end
end Go.Proofs.Ytbcleeifkmjlmaa
