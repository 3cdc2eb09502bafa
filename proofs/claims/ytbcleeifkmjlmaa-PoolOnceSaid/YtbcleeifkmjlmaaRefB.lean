/-
  The walks of the reference's buffer (a list behind a pointer), each with its contract over lists. No condition.
-/
import Derived.Test.YtbcleeifkmjlmaaIntsW
import Derived.Test.YtbcleeifkmjlmaaMix
namespace Go.Proofs.Ytbcleeifkmjlmaa
open Go.RowKit
set_option maxRecDepth 100000
set_option maxHeartbeats 400000

def RefAt (w : World) (B h : Nat) (l : List Int) : Prop := ∃ v, Cel w h 28 #[v] ∧ Own w B v l

section
variable {w w' : World} {B h : Nat} {l : List Int}
theorem RefAt.lt (hr : RefAt w B h l) : h < w.heap.size := by
  obtain ⟨v, h1, _⟩ := hr
  exact h1.lt
/-- Kept where no block of ours of ints turns. -/
theorem RefAt.upd {F : Nat → Prop} (hr : RefAt w B h l) (hu : Upd F w w') (hF : ¬ F h) (hi : ∀ k, F k → ∃ t cs, Cel w k t cs ∧ t ≠ 3) : RefAt w' B h l := by
  obtain ⟨v, h1, h2⟩ := hr
  exact ⟨v, hu.cel h1 hF, h2.upd hu (fun b hb hf => by
    obtain ⟨t, cs, hc, ht⟩ := hi b hf
    exact h2.typed hc ht b hb rfl)⟩
end

theorem rput_full (w : World) (B h : Nat) (l : List Int) (v : Int) (hr : RefAt w B h l) (hf : l.length = 32) :
    Calls Try.prog 11 #[.pointer (some ⟨h, 0, none⟩), .int .i64 v] w fun e w' => e = .returned (.bool false) ∧ w = w' := by
  obtain ⟨sv, hc, ho⟩ := hr
  obtain ⟨a, c, rfl⟩ := ho.rd.form
  have hcell : w.cell? ⟨h, 0, none⟩ = some (.slice a 32 c) := by rw [hc.cell 0, ← hf]; rfl
  clear hc ho hf
  go_enter Try.func11, Try.ntmps11
  go_wp2
  go_ret
  exact ⟨rfl, rfl⟩

/-- The two appends of Put turn no block but new ones. -/
theorem rput_keep {w w1 w2 : World} {h : Nat} {sv : Value} {n c1 c2 m : Nat} {a1 a2 : Option Addr} {o1 o2 : Obj} (hc : Cel w h 28 #[sv])
    (hg1 : (w.alloc o1).grownBy w1 (Value.ownBlock (.slice (some ⟨w.heap.size, 0, none⟩) 0 0)))
    (hat1 : Value.ownBlock (.slice a1 n c1) = Value.ownBlock (.slice (some ⟨w.heap.size, 0, none⟩) 0 0) ∨ Value.ownBlock (.slice a1 n c1) = some (w.alloc o1).heap.size)
    (hg2 : (w1.alloc o2).grownBy w2 (Value.ownBlock (.slice a1 n c1)))
    (_hat2 : Value.ownBlock (.slice a2 m c2) = Value.ownBlock (.slice a1 n c1) ∨ Value.ownBlock (.slice a2 m c2) = some (w1.alloc o2).heap.size) :
    w2.cell? ⟨h, 0, none⟩ = some sv ∧ w2.frozen? ⟨h, 0, none⟩ = false ∧ (Cel w2 h 28 #[sv] ∧ Upd (· = h) w w2) := by
  have hlt := hc.lt
  have hr1 : ∀ k, Value.ownBlock (.slice (some ⟨w.heap.size, 0, none⟩) 0 0) = some k → w.heap.size ≤ k := fun k hk => Nat.le_of_eq (Option.some.inj hk)
  have hr2 : ∀ k, Value.ownBlock (.slice a1 n c1) = some k → w.heap.size ≤ k := fun k hk => by
    rcases hat1 with e | e
    · exact hr1 k (e.symm.trans hk)
    · have := Option.some.inj (e.symm.trans hk)
      simp at this; omega
  have u1 : Upd (fun _ => False) w w1 := ((Upd.refl _ w).alloc o1).grown hg1 (fun k hk hlt => by have := hr1 k hk; omega)
  have u2 : Upd (fun _ => False) w w2 := (u1.alloc o2).grown hg2 (fun k hk hlt => by have := hr2 k hk; omega)
  have hc2 := u2.cel hc (fun h => h)
  exact ⟨hc2.cell 0, hc2.free 0, hc2, u2.mono (fun _ h _ => h.elim)⟩
theorem rput_room (w : World) (B h : Nat) (l : List Int) (v : Int) (hr : RefAt w B h l) (hf : l.length < 32) (hB : B ≤ w.heap.size) :
    Calls Try.prog 11 #[.pointer (some ⟨h, 0, none⟩), .int .i64 v] w fun e w' => e = .returned (.bool true) ∧ RefAt w' B h (l ++ [v]) ∧ Upd (· = h) w w' := by
  obtain ⟨sv, hc, ho⟩ := hr
  obtain ⟨a, c, hsv⟩ := ho.rd.form
  have hcell : w.cell? ⟨h, 0, none⟩ = some (.slice a l.length c) := by rw [hc.cell 0, ← hsv]; rfl
  have hlt := hc.lt
  have HC := Lib.hid (And.intro hc (And.intro ho hsv))
  clear hc ho hsv
  go_enter Try.func11, Try.ntmps11
  go_wp2_with (first
    | (at_builtin; refine wpList_append_rd rfl (.tmp 12) (.tmp 16) rfl rfl rfl (Own.empty w B hB) (l := []) (m := l) (by have := HC.out.2.1.rd; rw [HC.out.2.2] at this; exact this.alloc _) (by simp; omega) l.length (by simp) (by omega) ?_; intro a1 c1 w1 hown1 hg1 hat1)
    | (at_builtin; refine wpList_append_rd rfl (.tmp 17) (.tmp 19) rfl rfl rfl (hown1.alloc _) (Rd.one w1 v) (by have := hg1.size; simp at this ⊢; omega) (l.length + 1) (by simp) (by omega) ?_; intro a2 c2 w2 hown2 hg2 hat2
       have hk := rput_keep HC.out.1 hg1 hat1 hg2 hat2
       have hcell2 := hk.1
       have hfree2 := hk.2.1
       have HK := Lib.hid hk.2.2
       clear hk))
  go_ret
  have hk := HK.out
  exact ⟨rfl, ⟨_, hk.1.put 0 _, hown2.upd (F := (· = h)) ((Upd.refl (· = h) w2).sc (fun _ => rfl) _ _) (hown2.typed hk.1 (by decide))⟩, (hk.2.sc (fun _ => rfl) _ _)⟩

theorem rget_none (w : World) (B h : Nat) (hr : RefAt w B h []) :
    Calls Try.prog 13 #[.pointer (some ⟨h, 0, none⟩)] w fun e w' => e = .returned (.tuple #[.int .i64 0, .bool false]) ∧ w = w' := by
  obtain ⟨sv, hc, ho⟩ := hr
  obtain ⟨a, c, rfl⟩ := ho.rd.form
  have hcell : w.cell? ⟨h, 0, none⟩ = some (.slice a 0 c) := hc.cell 0
  clear hc ho
  go_enter Try.func13, Try.ntmps13
  go_wp2
  go_ret2
  exact ⟨rfl, rfl⟩
theorem rget_some (w : World) (B h : Nat) (l : List Int) (v : Int) (hr : RefAt w B h (l ++ [v])) (hl : (l ++ [v]).length ≤ 32) :
    Calls Try.prog 13 #[.pointer (some ⟨h, 0, none⟩)] w fun e w' => e = .returned (.tuple #[.int .i64 v, .bool true]) ∧ RefAt w' B h l ∧ Upd (· = h) w w' := by
  obtain ⟨sv, hc, ho⟩ := hr
  have hlen : (l ++ [v]).length = l.length + 1 := by simp
  rcases ho.blk with ⟨_, e⟩ | ⟨g, cap, cs, hsv, hB, hg, hn, hm, hs, hx⟩
  · simp at e
  · have hcell : w.cell? ⟨h, 0, none⟩ = some (.slice (some ⟨g, 0, none⟩) (l.length + 1) cap) := by rw [hc.cell 0, ← hlen, ← hsv]; rfl
    have hfree := hc.free 0
    have hlast : w.cell? ⟨g, l.length, none⟩ = some (.int .i64 v) := by
      rw [hg.cell, hx l.length (by omega), List.getD_eq_getElem?_getD]; simp
    have hne := hg.ne hc (by decide)
    have ho' := ho.take l.length (by omega) _ cap (by rw [hsv, hlen])
    rw [List.take_left' rfl] at ho'
    have H := Lib.hid (And.intro hc (And.intro hg ho'))
    have hcap : ¬ cap = 0 := by omega
    have hn32 : l.length < 32 := by omega
    have hlc : l.length ≤ cap := by omega
    clear hc ho hsv hx hg hs hm hlen hn ho'
    go_enter Try.func13, Try.ntmps13
    go_wp2
    go_ret2
    obtain ⟨hc, hg, ho'⟩ := H.out
    exact ⟨rfl, ⟨_, hc.put 0 _, ho'.upd (F := (· = h)) ((Upd.refl (· = h) w).sc (fun _ => rfl) _ _) (ho'.typed hc (by decide))⟩, (Upd.refl (· = h) w).sc (fun _ => rfl) _ _⟩

theorem info_ref : (Try.prog.info? 28).map (·.size) = some 1 := by kernel_rfl
theorem rhalf_much (w : World) (B h k : Nat) (l m : List Int) (hr : RefAt w B h l) (hr' : RefAt w B k m) (hhk : h ≠ k) (hf : 32 < l.length / 2 + m.length) (hl : l.length ≤ 32) (hm : m.length ≤ 32) :
    Calls Try.prog 15 #[.pointer (some ⟨h, 0, none⟩), .pointer (some ⟨k, 0, none⟩)] w fun e w' => e = .returned (.int .i64 0) ∧ w = w' := by
  obtain ⟨sv, hc, ho⟩ := hr
  obtain ⟨a, c, rfl⟩ := ho.rd.form
  obtain ⟨sv', hc', ho'⟩ := hr'
  obtain ⟨a', c', rfl⟩ := ho'.rd.form
  obtain ⟨j, hj, hj0⟩ := Option.map_eq_some_iff.1 info_ref
  have heq := run_eql_ptr_other (P := Try.prog) w (a := ⟨k, 0, none⟩) (b := ⟨h, 0, none⟩) Try.underlying25 hj (by omega) (fun e => hhk (congrArg Addr.block e).symm) hc' hc
  have q1 : w.cell? ⟨h, 0, none⟩ = some (.slice a l.length c) := hc.cell 0
  have q2 : w.cell? ⟨k, 0, none⟩ = some (.slice a' m.length c') := hc'.cell 0
  clear hc ho hc' ho' hj hj0
  generalize l.length = ln at *
  generalize m.length = mn at *
  go_enter Try.func15, Try.ntmps15
  go_wp2
  go_ret
  exact ⟨rfl, rfl⟩

theorem rhalf_core (w : World) (B h k ln mn c c' : Nat) (a a' : Option Addr) (l m : List Int) (hc : Cel w h 28 #[.slice a ln c]) (ho : Own w B (.slice a ln c) l) (hc' : Cel w k 28 #[.slice a' mn c']) (ho' : Own w B (.slice a' mn c') m)
    (hln : l.length = ln) (hmn : m.length = mn) (hhk : h ≠ k) (hf : ln / 2 + mn ≤ 32) (hl : ln ≤ 32) (hB : B ≤ w.heap.size) :
    Calls Try.prog 15 #[.pointer (some ⟨h, 0, none⟩), .pointer (some ⟨k, 0, none⟩)] w fun e w' => e = .returned (.int .i64 (ln / 2 : Nat)) ∧
      RefAt w' B h (l.take (ln - ln / 2)) ∧ RefAt w' B k (m ++ l.drop (ln - ln / 2)) ∧ Upd (fun b => b = h ∨ b = k) w w' := by
  obtain ⟨j, hj, hj0⟩ := Option.map_eq_some_iff.1 info_ref
  have heq := run_eql_ptr_other (P := Try.prog) w (a := ⟨k, 0, none⟩) (b := ⟨h, 0, none⟩) Try.underlying25 hj (by omega) (fun e => hhk (congrArg Addr.block e).symm) hc' hc
  have q1 : w.cell? ⟨h, 0, none⟩ = some (.slice a ln c) := hc.cell 0
  have q2 : w.cell? ⟨k, 0, none⟩ = some (.slice a' mn c') := hc'.cell 0
  have hcap : ln ≤ c := by
    rcases ho.blk with ⟨_, e'⟩ | ⟨g, cap, cs, e, _, _, h1, _⟩
    · rw [e'] at hln
      simp at hln; omega
    · injection e with _ _ e3
      omega
  have rd1 : Rd w (.slice a ln c) l := ho.rd
  have rd2 : Rd w (.slice a' mn c') m := ho'.rd
  have rc := rd1.cut hln hcap (ln - ln / 2) (by omega)
  have HC := Lib.hid hc
  have HC' := Lib.hid hc'
  have HO := Lib.hid (And.intro ho ho')
  have HL := Lib.hid (And.intro hln hmn)
  have hk : ∀ o, (w.alloc o).drew.cell? ⟨k, 0, none⟩ = some (.slice a' mn c') := fun o => (hc'.alloc o).cell 0
  have hh : ∀ o, (w.alloc o).drew.cell? ⟨h, 0, none⟩ = some (.slice a ln c) := fun o => (hc.alloc o).cell 0
  clear hc hc' ho ho' hln hmn hj hj0
  go_enter Try.func15, Try.ntmps15
  go_wp2
  have hsl : ∀ W, (Instr.slice 26 (.slice a ln c) (some (.int .i64 ((ln : Int) - (ln : Int) / 2))) none none).run Try.prog W = .ok (sliced a (ln - ln / 2) ln c 1) W := by
    intro W
    rw [run_slice_l W 26 a ln c (by kernel_rfl) .i64 _ (by omega) (by omega)]
    rw [show (sizeOf (Try.prog.elem 26)).run Try.prog W = .ok 1 W from by kernel_rfl, show ((ln : Int) - (ln : Int) / 2).toNat = ln - ln / 2 by omega]
    rfl
  obtain ⟨A, C, hAC⟩ : ∃ A C, sliced a (ln - ln / 2) ln c 1 = .slice A (ln / 2) C := ⟨_, _, by unfold sliced; rw [show ln - (ln - ln / 2) = ln / 2 by omega]⟩
  rw [hAC] at rc hsl
  have RD := Lib.hid (And.intro rd2 rc)
  have i0 : (0 : Int) ≤ (ln : Int) - (ln : Int) / 2 := by omega
  have i1 : (ln : Int) - (ln : Int) / 2 ≤ (ln : Int) := by omega
  have w1 : IntKind.i64.wrap ((ln : Int) - (ln : Int) / 2) = (ln : Int) - (ln : Int) / 2 := IntWalk.i64_in _ (by omega)
  clear rd1 rd2 rc hAC heq
  have hq1 := Held.cell q1
  have hq2 := Held.cell q2
  refine wp_region_held0 [0, 2, 3, 4, 5, 7, 8, 9, 10, 11, 12, 13, 14, 15, 16, 17, 18] [1, 6, 19, 20, 21, 22] [22] w (by kernel_rfl) (by kernel_rfl) (fun _ _ _ _ _ h => h) (Upd.refl _ _) ?_
  simp only [List.filterMap_cons, List.filterMap_nil, List.getElem?_toArray, List.getElem?_cons_zero, List.getElem?_cons_succ]
  show wpQuiet _ _ _ _ [_, _, _, _, _, _, _, _, _, _, _, _, _, _, _, _, _] _
  repeat (go_big_quiet_step (fail))
  refine wpQuiet_nil ?_
  refine chain_op (o := ⟨_, _, _, _, _, _⟩) rfl rfl fun K hK => ?_
  go_simp
  refine hK _ _ (fun _ => ((Upd.refl _ w).alloc _).drew) ?_
  clear hK K
  obtain ⟨hm, hd⟩ := RD.out
  refine chain_op (o := ⟨_, _, _, _, _, _⟩) rfl rfl fun K hK => ?_
  refine wp_append_rd (.tmp 26) (.tmp 30) rfl rfl rfl (B := B) (l := []) (m := m) ((Own.empty w B hB).heap rfl) ((hm.alloc _).heap rfl) (by simp; omega) mn (by simpa using HL.out.2) (by omega) ?_
  intro a1 c1 w2 hown1 hg1 hat1
  have u1 : Upd (fun _ => False) w w2 := ((Upd.refl _ w).alloc _).drew.grown hg1 (fun q hq hlt => by have : w.heap.size = q := Option.some.inj hq; omega)
  refine hK _ _ (fun _ => u1) ?_
  clear hK K
  refine chain_op (o := ⟨_, _, _, _, _, _⟩) rfl rfl fun K hK => ?_
  refine wp_append_rd (.tmp 31) (.tmp 43) rfl rfl rfl hown1 (hd.upd u1 (fun _ _ h => h)) (by have := u1.size; omega) (mn + ln / 2) (by simp [HL.out.1, HL.out.2]; omega) (by omega) ?_
  intro a2 c2 w3 hown2 hg2 hat2
  have u2 : Upd (fun _ => False) w w3 := u1.grown hg2 (fun q hq hlt => by
    rcases hat1 with e | e
    · have : w.heap.size = q := Option.some.inj (e.symm.trans hq)
      omega
    · have := Option.some.inj (e.symm.trans hq)
      simp at this; omega)
  refine hK _ _ (fun _ => u2) ?_
  clear hK K
  have d1 := u2.cel HC.out (fun h => h)
  have d2 := u2.cel HC'.out (fun h => h)
  have e2 := d2.cell 0
  have e3 := d2.free 0
  have hown2' : Own w3 B (.slice a2 (mn + ln / 2) c2) (m ++ l.drop (ln - ln / 2)) := hown2
  have ho1 := HO.out.1.upd u2 (fun _ _ h => h)
  have D := Lib.hid (And.intro u2 (And.intro d1 (And.intro d2 (And.intro hown2' ho1))))
  clear u2 d1 d2 hown2 hown2' hat2 hg2 hat1 hg1 u1 hown1 hm hd hq1 hq2 hsl ho1
  refine chain_op (o := ⟨_, _, _, _, _, _⟩) rfl rfl fun K hK => ?_
  go_simp
  refine hK _ _ (fun _ => D.out.1) ?_
  clear hK K
  refine chain_op (o := ⟨_, _, _, _, _, _⟩) rfl rfl fun K hK => ?_
  go_simp
  refine hK _ _ (fun _ => D.out.1) ?_
  clear hK K
  refine chain_op (o := ⟨_, _, _, _, _, _⟩) rfl rfl fun K hK => ?_
  go_simp
  refine hK _ _ (fun h => by cases h) ?_
  clear hK K
  show Exit.then _ _ _ _ _
  go_wp2
  have hsl2 : ∀ W, (Instr.slice 26 (.slice a ln c) none (some (.int .i64 ((ln : Int) - (ln : Int) / 2))) none).run Try.prog W = .ok (.slice a (ln - ln / 2) c) W := by
    intro W
    rw [run_slice_h W 26 a ln c (by kernel_rfl) .i64 _ (by omega) (by omega)]
    rw [show (sizeOf (Try.prog.elem 26)).run Try.prog W = .ok 1 W from by kernel_rfl, show ((ln : Int) - (ln : Int) / 2).toNat = ln - ln / 2 by omega]
    simp only [Result.andThen, sliced, Nat.zero_mul, Nat.sub_zero]
    congr 2
    split
    · rfl
    · cases a <;> simp [Addr.add]
  obtain ⟨u2, d1, d2, o1, o2⟩ := D.out
  have g1 := d1.far (p := ⟨k, 0, none⟩) hhk (.slice a2 (mn + ln / 2) c2)
  have g2 := d2.put 0 (.slice a2 (mn + ln / 2) c2)
  have u3 := (u2.mono (G := fun b => b = h ∨ b = k) (fun _ h _ => h.elim)).sc (g := k) (fun _ => .inr rfl) 0 (.slice a2 (mn + ln / 2) c2)
  have p1 := o1.upd (F := (· = k)) ((Upd.refl (· = k) w3).sc (fun _ => rfl) 0 (.slice a2 (mn + ln / 2) c2)) (o1.typed d2 (by decide))
  have p2 := o2.upd (F := (· = k)) ((Upd.refl (· = k) w3).sc (fun _ => rfl) 0 (.slice a2 (mn + ln / 2) c2)) (o2.typed d2 (by decide))
  generalize w3.setCell ⟨k, 0, none⟩ (.slice a2 (mn + ln / 2) c2) = w4 at g1 g2 u3 p1 p2 ⊢
  have r1 := g1.cell 0
  have r2 := g1.free 0
  have r3 := p2.take (ln - ln / 2) (by have := HL.out.1; omega) a c (by rw [HL.out.1])
  have E := Lib.hid (And.intro g1 (And.intro g2 (And.intro u3 (And.intro p1 r3))))
  clear u2 d1 d2 o1 o2 g1 g2 u3 p1 p2 e2 e3 r3
  refine wp_region_tail 13 (by kernel_rfl) (by kernel_rfl) ?_
  simp only [List.take_succ_cons, List.take_zero, List.drop_succ_cons, List.drop_zero]
  repeat (go_big_quiet_step (fail))
  refine wpQuiet_nil ?_
  show wpList _ _ _ _ _ _
  go_wp2
  go_ret
  obtain ⟨g1, g2, u3, p1, r3⟩ := E.out
  have v1 := g1.put 0 (.slice a (ln - ln / 2) c)
  have v2 := g2.far (p := ⟨h, 0, none⟩) (Ne.symm hhk) (.slice a (ln - ln / 2) c)
  have up := (Upd.refl (· = h) w4).sc (fun _ => rfl) 0 (.slice a (ln - ln / 2) c)
  exact ⟨by rw [show ((ln / 2 : Nat) : Int) = (ln : Int) / 2 by omega]; rfl, ⟨_, v1.drew, (r3.upd up (r3.typed g1 (by decide))).drew⟩, ⟨_, v2.drew, (p1.upd up (p1.typed g1 (by decide))).drew⟩, (u3.sc (fun _ => .inl rfl) 0 _).drew⟩

theorem rhalf_fits (w : World) (B h k : Nat) (l m : List Int) (hr : RefAt w B h l) (hr' : RefAt w B k m) (hhk : h ≠ k) (hf : l.length / 2 + m.length ≤ 32) (hl : l.length ≤ 32) (hB : B ≤ w.heap.size) :
    Calls Try.prog 15 #[.pointer (some ⟨h, 0, none⟩), .pointer (some ⟨k, 0, none⟩)] w fun e w' => e = .returned (.int .i64 (l.length / 2 : Nat)) ∧
      RefAt w' B h (l.take (l.length - l.length / 2)) ∧ RefAt w' B k (m ++ l.drop (l.length - l.length / 2)) ∧ Upd (fun b => b = h ∨ b = k) w w' := by
  obtain ⟨sv, hc, ho⟩ := hr
  obtain ⟨a, c, rfl⟩ := ho.rd.form
  obtain ⟨sv', hc', ho'⟩ := hr'
  obtain ⟨a', c', rfl⟩ := ho'.rd.form
  exact rhalf_core w B h k l.length m.length c c' a a' l m hc ho hc' ho' rfl rfl hhk hf hl hB
end Go.Proofs.Ytbcleeifkmjlmaa
