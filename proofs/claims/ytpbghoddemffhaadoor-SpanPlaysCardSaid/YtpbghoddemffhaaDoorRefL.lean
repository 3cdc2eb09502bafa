/-
  The reference's Has, Put, Out over slices of ints, and the law's own next: contracts over lists.
-/
import Derived.Test.YtpbghoddemffhaaDoorLst
import Derived.Test.YtpbghoddemffhaaDoorFork
namespace Go.Proofs.YtpbghoddemffhaaDoor
open Go.RowKit
set_option maxRecDepth 100000
set_option maxHeartbeats 1000000

theorem rhas_core (w : World) (b off n c : Nat) (a : Option Addr) (l : List Int) (x : Int) (hl : l.length = n) (hn : n ≤ 9223372036854775807) (ha : 0 < n → a = some ⟨b, off, none⟩)
    (hc : ∀ j, j < n → w.cell? ⟨b, off + j, none⟩ = some (.int .i64 (l.getD j 0))) :
    Calls Tryd.prog 46 #[.slice a n c, .int .i64 x] w fun e w' => e = .returned (.bool (hasL l x)) ∧ w = w' := by
  have HC := Lib.hid hc
  have HN := Lib.hid (And.intro hl ha)
  clear hc hl ha
  go_enter Tryd.func46, Tryd.ntmps46
  go_wp2
  go_loop [5] (fun p => ∃ i : Nat, i ≤ n ∧ p = .int .i64 i ∧ Hid (∀ j, j < i → l.getD j 0 ≠ x)) (fun p => n - (intOf p).toNat)
  case atStart => exact ⟨0, by omega, rfl, fun j hj => absurd hj (by omega)⟩
  case round =>
    obtain ⟨i, hi, rfl, he⟩ := hrel
    by_cases hlt : i < n
    · obtain rfl := HN.out.2 (by omega)
      have c1 := HC.out i hlt
      generalize hx : l.getD i 0 = y at c1
      have HX := Lib.hid hx
      clear hx
      have i1 : (0 : Int) ≤ (i : Int) := by omega
      have i2 : (i : Int) < (n : Int) := by omega
      by_cases hxy : y = x
      · subst hxy
        have hd := Lib.hid (hasL_at (by rw [HN.out.1]; exact hlt) HX.out)
        go_wp2
        go_ret
        exact ⟨by rw [hd.out]; rfl, rfl⟩
      · have d1 : (y == x) = false := by simpa using hxy
        go_wp2
        go_round
        case rel =>
          refine ⟨i + 1, by omega, by go_num, fun j hj => ?_⟩
          by_cases e : j = i
          · subst e; rw [HX.out]; exact hxy
          · exact he.out j (by omega)
        case measure => simp [intOf]; omega
    · have hd := Lib.hid (hasL_not (l := l) (x := x) (fun j hj => he.out j (by have := HN.out.1; omega)))
      go_wp2
      go_ret
      exact ⟨by rw [hd.out]; rfl, rfl⟩
theorem rhas_any (w : World) (v : Value) (l : List Int) (x : Int) (h : Rd w v l) (hl : l.length ≤ 9223372036854775807) :
    Calls Tryd.prog 46 #[v, .int .i64 x] w fun e w' => e = .returned (.bool (hasL l x)) ∧ w = w' := by
  obtain ⟨a, c, rfl⟩ := h.form
  obtain ⟨e, b, off, ha, hc⟩ := h.plain
  exact rhas_core w b off _ c a l x e hl ha hc

theorem lnext_core (w : World) (v : Value) (l : List Int) (n p0 : Nat) (i : Int) (b : Bool) (M : Nat → Bool) (h : Rd w v l) (hl : l.length ≤ 9223372036854775807) (hM : ∀ t : Nat, hasL l (t : Int) = M t) (hn : n ≤ 16777216) (hp : max i 0 = (p0 : Int)) :
    Calls Tryd.prog 49 #[v, .int .i64 n, .int .i64 i, .bool b] w fun e w' => e = .returned (.int .i64 (nextM M n b p0)) ∧ w = w' := by
  obtain ⟨a, c, rfl⟩ := h.form
  obtain ⟨ln, hln⟩ : ∃ ln, ln = l.length := ⟨_, rfl⟩
  rw [← hln] at h ⊢
  have H := Lib.hid (And.intro h (And.intro hl hM))
  clear h hl hM hln
  go_enter Tryd.func49, Tryd.ntmps49
  go_wp2
  clear hp
  go_loopg [9] (n + 1 - p0) (fun q s1 ws => ws = w ∧ ∃ p : Nat, s1 = .int .i64 p ∧ p0 ≤ p ∧ (p ≤ n ∨ p = p0) ∧ n - p ≤ q ∧ Hid (∀ t, p0 ≤ t → t < p → M t ≠ b))
  case atStart => exact ⟨rfl, p0, rfl, Nat.le_refl _, .inr rfl, by omega, fun t h1 h2 => by omega⟩
  case round =>
    obtain ⟨rfl, p, rfl, hp1, hp2, hq, hno⟩ := hrel
    by_cases hlt : p < n
    · have i1 : (p : Int) < (n : Int) := by omega
      go_wp2_with fail
      refine (rhas_any _ _ l _ H.out.1 H.out.2.1).mono ?_
      rintro e w' ⟨rfl, rfl⟩
      rw [H.out.2.2]
      by_cases hM : M p = b
      · have hd := Lib.hid (nextM_some (M := M) hp1 hlt hM (fun t h1 h2 => hno.out t h1 h2))
        have he : (M p == b) = true := by simp [hM]
        generalize M p = y at he hM ⊢
        clear hM
        go_wp2_with fail
        go_ret
        exact ⟨by rw [hd.out]; rfl, rfl⟩
      · have he : (M p == b) = false := by simpa using hM
        have HM := Lib.hid hM
        generalize M p = y at he ⊢
        clear hM
        go_wp2_with fail
        go_roundg (n - (p + 1))
        case measure => omega
        case rel =>
          refine ⟨rfl, p + 1, by go_num, by omega, .inl (by omega), by omega, fun t h1 h2 => ?_⟩
          by_cases e : t = p
          · subst e; exact HM.out
          · exact hno.out t h1 (by omega)
    · have hd := Lib.hid (nextM_none (M := M) (n := n) (b := b) (i := p0) (fun t h1 h2 => hno.out t h1 (by omega)))
      have i1 : ¬ (p : Int) < (n : Int) := by omega
      go_wp2_with fail
      go_ret
      exact ⟨by rw [hd.out]; rfl, rfl⟩

theorem slice_to (a : Option Addr) (n c i : Nat) (hi : i ≤ n) (hn : n ≤ c) (W : World) : (Instr.slice 43 (.slice a n c) none (some (.int .i64 (i : Int))) none).run Tryd.prog W = .ok (.slice a i c) W := by
  rw [run_slice_h W 43 a n c (by kernel_rfl) .i64 _ (by omega) (by omega)]
  rw [show (sizeOf (Tryd.prog.elem 43)).run Tryd.prog W = .ok 1 W from by kernel_rfl, Int.toNat_natCast]
  simp only [Result.andThen, sliced, Nat.zero_mul, Nat.sub_zero]
  congr 2
  split
  · rfl
  · cases a <;> simp [Addr.add]
theorem slice_from (a : Option Addr) (n c i : Nat) (hi : i ≤ n) (_hn : n ≤ c) (W : World) : (Instr.slice 43 (.slice a n c) (some (.int .i64 (i : Int))) none none).run Tryd.prog W = .ok (sliced a i n c 1) W := by
  rw [run_slice_l W 43 a n c (by kernel_rfl) .i64 _ (by omega) (by omega)]
  rw [show (sizeOf (Tryd.prog.elem 43)).run Tryd.prog W = .ok 1 W from by kernel_rfl, Int.toNat_natCast]
  rfl
theorem Own.cap {w : World} {B n c : Nat} {a : Option Addr} {l : List Int} (h : Own w B (.slice a n c) l) : l.length = n ∧ n ≤ c := by
  rcases h.blk with ⟨e, rfl⟩ | ⟨g, cap, cs, e, _, _, h1, _⟩
  · injection e with e1 e2 e3
    subst e2 e3
    simp
  · injection e with e1 e2 e3
    subst e2 e3
    exact ⟨rfl, h1⟩
theorem Own.blt {w : World} {B : Nat} {v : Value} {l : List Int} (h : Own w B v l) : ∀ b, v.ownBlock = some b → b < w.heap.size := fun b hb => (h.ge b hb).2

theorem Own.weak {w : World} {B B' : Nat} {v : Value} {l : List Int} (h : Own w B v l) (hB : B' ≤ B) : Own w B' v l := by
  rcases h.blk with ⟨rfl, rfl⟩ | ⟨g, cap, cs, rfl, h1, hg, h2, h3, h4, h5⟩
  · exact Own.nil _ _
  · exact Own.of_blk (Nat.le_trans hB h1) hg h2 h3 h4 h5
theorem Upd.own {F : Nat → Prop} {a w w' : World} {v : Value} {l : List Int} (h : Upd F a w) (hv : Own w a.heap.size v l) (hg : w.grownBy w' v.ownBlock) : Upd F a w' :=
  h.grown hg (fun k hk hlt => by have := (hv.ge k hk).1; omega)

/-- What Put hands back. -/
def PutR (B : Nat) (m : List Int) (w : World) (e : Ending) (w' : World) : Prop := ∃ v', e = .returned v' ∧ Own w' B v' m ∧ Below w.heap.size w w'
theorem rput_core (w : World) (B b off n c : Nat) (a : Option Addr) (l : List Int) (x : Int) (h : Own w B (.slice a n c) l) (hn : n ≤ 1000000) (hB : B ≤ w.heap.size) (ha : 0 < n → a = some ⟨b, off, none⟩)
    (hc : ∀ j, j < n → w.cell? ⟨b, off + j, none⟩ = some (.int .i64 (l.getD j 0))) :
    Calls Tryd.prog 47 #[.slice a n c, .int .i64 x] w (PutR B (insL x l) w) := by
  have HC := Lib.hid hc
  have hcap := h.cap
  have hnc := hcap.2
  have HN := Lib.hid (And.intro hcap.1 (And.intro ha h))
  clear hc ha h hcap
  go_enter Tryd.func47, Tryd.ntmps47
  go_wp2
  go_loop [5] (fun p => ∃ i : Nat, i ≤ n ∧ p = .int .i64 i ∧ Hid (∀ j, j < i → l.getD j 0 < x)) (fun p => n - (intOf p).toNat)
  case atStart => exact ⟨0, by omega, rfl, fun j hj => absurd hj (by omega)⟩
  case round =>
    obtain ⟨i, hi, rfl, he⟩ := hrel
    have hways : (i < n ∧ l.getD i 0 < x) ∨ (i < n ∧ l.getD i 0 = x) ∨ (i < n ∧ x < l.getD i 0) ∨ i = n := by omega
    rcases hways with ⟨hlt, hx⟩ | ⟨hlt, hx⟩ | hway
    · obtain rfl := HN.out.2.1 (by omega)
      have c1 := HC.out i hlt
      have HX := Lib.hid hx
      generalize l.getD i 0 = y at c1 hx
      have i1 : (0 : Int) ≤ (i : Int) := by omega
      have i2 : (i : Int) < (n : Int) := by omega
      go_wp2
      go_round
      case rel =>
        refine ⟨i + 1, by omega, by go_num, fun j hj => ?_⟩
        by_cases e : j = i
        · subst e; exact HX.out
        · exact he.out j (by omega)
      case measure => simp [intOf]; omega
    · obtain rfl := HN.out.2.1 (by omega)
      have c1 := HC.out i hlt
      have hd := Lib.hid (insL_found l i (by rw [HN.out.1]; exact hlt) he.out hx)
      have i1 : (0 : Int) ≤ (i : Int) := by omega
      have i2 : (i : Int) < (n : Int) := by omega
      rw [hx] at c1
      clear hx
      go_wp2
      go_ret
      exact ⟨_, rfl, by rw [hd.out]; exact HN.out.2.2, Below.refl _ _⟩
    · have hd := Lib.hid (insL_new l i (by rw [HN.out.1]; exact hi) he.out (fun h => by have := HN.out.1; omega))
      obtain ⟨hown, hrd⟩ : Own w B (.slice a i c) (l.take i) ∧ Rd w (sliced a i n c 1) (l.drop i) :=
        ⟨HN.out.2.2.take i (by rw [HN.out.1]; exact hi) a c (by rw [HN.out.1]), HN.out.2.2.rd.cut HN.out.1 hnc i hi⟩
      have hs1 := slice_to a n c i hi hnc
      have hs2 := slice_from a n c i hi hnc
      obtain ⟨A, C, hAC⟩ : ∃ A C, sliced a i n c 1 = .slice A (n - i) C := ⟨_, _, rfl⟩
      rw [hAC] at hs2 hrd
      have HR := Lib.hid (And.intro hown hrd)
      have HT := Lib.hid (show (l.take i).length = i ∧ (l.drop i).length = n - i by have := HN.out.1; simp; omega)
      clear hown hrd hAC he
      have i1 : (0 : Int) ≤ (i : Int) := by omega
      have i3 : (i : Int) ≤ (n : Int) := by omega
      rcases hway with ⟨hlt, hx⟩ | hin
      · obtain rfl := HN.out.2.1 (by omega)
        have c1 := HC.out i hlt
        generalize l.getD i 0 = y at c1 hx
        have d1 : (y == x) = false := by simp; omega
        have d2 : ¬ y < x := by omega
        have i2 : (i : Int) < (n : Int) := by omega
        go_upto_region 6 with fail
        clear c1 hx d1 d2
        have hne : Nonempty (Kept (Upd (fun _ => False) w)) := ⟨⟨w, Upd.refl _ w⟩⟩
        refine wp_region_fork [1, 2, 3, 5, 8, 9, 10] [12] 6 (Upd (fun _ => False) w) (by kernel_rfl) (by kernel_rfl) (fun _ _ _ _ _ h => h) (Upd.refl _ w).drew ?_
        show wpQuiet _ _ _ _ (List.filterMap _ _) _
        simp only [List.filterMap_cons, List.filterMap_nil, List.getElem?_toArray, List.getElem?_cons_zero, List.getElem?_cons_succ]
        show wpQuiet _ _ _ _ [_, _, _, _, _, _, _] _
        repeat (go_big_quiet_step (fail))
        refine wpQuiet_nil ?_
        refine till_two (i := 0) (k := 6) (by kernel_rfl) ?_ ?_
        · refine then_op (o := ⟨_, _, _, _, _, _⟩) rfl rfl fun K hK => ?_
          go_simp
          have u1 : Upd (fun _ => False) w (w.alloc (.cells #[] 3)).drew := ((Upd.refl _ w).alloc _).drew
          have own1 : Own (w.alloc (.cells #[] 3)).drew w.heap.size (.slice (some ⟨w.heap.size, 0, none⟩) 0 0) [] := (Own.empty w _ (Nat.le_refl _)).heap rfl
          refine hK _ _ (fun _ => u1) ?_
          clear hK K
          generalize (w.alloc (.cells #[] 3)).drew = w1 at u1 own1 ⊢
          refine till_two (i := 4) (k := 6) (by kernel_rfl) ?_ ?_
          · refine then_op (o := ⟨_, _, _, _, _, _⟩) rfl rfl fun K hK => ?_
            refine wp_append_rd (.tmp 33) (.tmp 36) rfl rfl rfl own1 (HR.out.1.rd.upd u1 (fun _ _ h => h)) u1.size i (by simp [HT.out.1]) (by omega) ?_
            intro a2 c2 w2 own2 hg2 _
            rw [List.nil_append] at own2
            have u2 := u1.own own1 hg2
            refine hK _ _ (fun _ => u2) ?_
            clear hK K
            refine till_one (i := 6) (by kernel_rfl) ?_
            refine then_op (o := ⟨_, _, _, _, _, _⟩) rfl rfl fun K hK => ?_
            go_simp
            have u3 := u2.alloc (.cells #[.int .i64 x] 3)
            have own := own2.alloc (.cells #[.int .i64 x] 3)
            have rd := Rd.one w2 x
            refine hK _ _ (fun _ => u3) ?_
            clear hK K own1 u1 own2 u2 hg2
            refine till_one (i := 7) (by kernel_rfl) ?_
            refine then_op (o := ⟨_, _, _, _, _, _⟩) rfl rfl fun K hK => ?_
            refine wp_append_rd (.tmp 37) (.tmp 39) rfl rfl rfl own rd u3.size (i + 1) (by simp [HT.out.1]) (by omega) ?_
            intro a7 c7 w7 own7 hg7 _
            have u7 := u3.own own hg7
            refine hK _ _ (fun _ => u7) ?_
            clear hK K
            refine till_one (i := 11) (by kernel_rfl) ?_
            refine then_op (o := ⟨_, _, _, _, _, _⟩) rfl rfl fun K hK => ?_
            refine wp_append_rd (.tmp 40) (.tmp 43) rfl rfl rfl own7 (HR.out.2.upd u7 (fun _ _ h => h)) u7.size (n + 1) (by simp [HT.out.1, HT.out.2]; omega) (by omega) ?_
            intro a8 c8 w8 own8 hg8 _
            have u8 := u7.own own7 hg8
            refine hK _ _ (fun _ => u8) ?_
            clear hK K
            refine till_one (i := 12) (by kernel_rfl) ?_
            refine then_op (o := ⟨_, _, _, _, _, _⟩) rfl rfl fun K hK => ?_
            go_simp
            refine hK _ _ (fun h => by cases h) ?_
            clear hK K
            refine till_end (by kernel_rfl) ?_
            have D := Lib.hid (And.intro own8 u8)
            clear own8 u8 own7 u7 own rd u3 hg7 hg8
            go_wp2
            go_ret
            exact ⟨_, rfl, (by rw [hd.out]; exact D.out.1.weak hB), D.out.2.toBelow (Nat.le_refl _) (fun _ h => h.elim)⟩
          · refine then_op (o := ⟨_, _, _, _, _, _⟩) rfl rfl fun K hK => ?_
            go_simp
            have u2 := u1.alloc (.cells #[.int .i64 x] 3)
            have own2 := own1.alloc (.cells #[.int .i64 x] 3)
            have rd2 := Rd.one w1 x
            refine hK _ _ (fun _ => u2) ?_
            clear hK K
            refine till_one (i := 4) (by kernel_rfl) ?_
            refine then_op (o := ⟨_, _, _, _, _, _⟩) rfl rfl fun K hK => ?_
            refine wp_append_rd (.tmp 33) (.tmp 36) rfl rfl rfl own2 (HR.out.1.rd.upd u2 (fun _ _ h => h)) u2.size i (by simp [HT.out.1]) (by omega) ?_
            intro a3 c3 w3 own hg3 _
            rw [List.nil_append] at own
            have u3 := u2.own own2 hg3
            have rd := rd2.grown hg3 (fun b hb e => by
              have h1 := own1.blt _ e
              have h2 : w1.heap.size = b := Option.some.inj hb
              omega)
            refine hK _ _ (fun _ => u3) ?_
            clear hK K own1 u1 own2 u2 hg3 rd2
            refine till_one (i := 7) (by kernel_rfl) ?_
            refine then_op (o := ⟨_, _, _, _, _, _⟩) rfl rfl fun K hK => ?_
            refine wp_append_rd (.tmp 37) (.tmp 39) rfl rfl rfl own rd u3.size (i + 1) (by simp [HT.out.1]) (by omega) ?_
            intro a7 c7 w7 own7 hg7 _
            have u7 := u3.own own hg7
            refine hK _ _ (fun _ => u7) ?_
            clear hK K
            refine till_one (i := 11) (by kernel_rfl) ?_
            refine then_op (o := ⟨_, _, _, _, _, _⟩) rfl rfl fun K hK => ?_
            refine wp_append_rd (.tmp 40) (.tmp 43) rfl rfl rfl own7 (HR.out.2.upd u7 (fun _ _ h => h)) u7.size (n + 1) (by simp [HT.out.1, HT.out.2]; omega) (by omega) ?_
            intro a8 c8 w8 own8 hg8 _
            have u8 := u7.own own7 hg8
            refine hK _ _ (fun _ => u8) ?_
            clear hK K
            refine till_one (i := 12) (by kernel_rfl) ?_
            refine then_op (o := ⟨_, _, _, _, _, _⟩) rfl rfl fun K hK => ?_
            go_simp
            refine hK _ _ (fun h => by cases h) ?_
            clear hK K
            refine till_end (by kernel_rfl) ?_
            have D := Lib.hid (And.intro own8 u8)
            clear own8 u8 own7 u7 own rd u3 hg7 hg8
            go_wp2
            go_ret
            exact ⟨_, rfl, (by rw [hd.out]; exact D.out.1.weak hB), D.out.2.toBelow (Nat.le_refl _) (fun _ h => h.elim)⟩
        · refine then_op (o := ⟨_, _, _, _, _, _⟩) rfl rfl fun K hK => ?_
          go_simp
          have u1 : Upd (fun _ => False) w (w.alloc (.cells #[.int .i64 x] 3)).drew := ((Upd.refl _ w).alloc _).drew
          have rd1 : Rd (w.alloc (.cells #[.int .i64 x] 3)).drew (.slice (some ⟨w.heap.size, 0, none⟩) 1 1) [x] := (Rd.one w x).heap rfl
          have hz : (w.alloc (.cells #[.int .i64 x] 3)).drew.heap.size = w.heap.size + 1 := by simp
          refine hK _ _ (fun _ => u1) ?_
          clear hK K
          generalize (w.alloc (.cells #[.int .i64 x] 3)).drew = w1 at u1 rd1 hz ⊢
          refine till_one (i := 0) (by kernel_rfl) ?_
          refine then_op (o := ⟨_, _, _, _, _, _⟩) rfl rfl fun K hK => ?_
          go_simp
          have u2 := u1.alloc (.cells #[] 3)
          have own2 : Own (w1.alloc (.cells #[] 3)) w.heap.size (.slice (some ⟨w1.heap.size, 0, none⟩) 0 0) [] := Own.empty w1 _ u1.size
          rw [hz] at own2
          have rd2 := rd1.alloc (.cells #[] 3)
          refine hK _ _ (fun _ => u2) ?_
          clear hK K
          refine till_one (i := 4) (by kernel_rfl) ?_
          refine then_op (o := ⟨_, _, _, _, _, _⟩) rfl rfl fun K hK => ?_
          refine wp_append_rd (.tmp 33) (.tmp 36) rfl rfl rfl own2 (HR.out.1.rd.upd u2 (fun _ _ h => h)) u2.size i (by simp [HT.out.1]) (by omega) ?_
          intro a3 c3 w3 own hg3 _
          rw [List.nil_append] at own
          have u3 := u2.own own2 hg3
          have rd := rd2.grown hg3 (fun b hb e => by
            have h1 : w.heap.size + 1 = b := Option.some.inj e
            have h2 : w.heap.size = b := Option.some.inj hb
            omega)
          refine hK _ _ (fun _ => u3) ?_
          clear hK K u1 own2 u2 hg3 rd2 rd1 hz
          refine till_one (i := 7) (by kernel_rfl) ?_
          refine then_op (o := ⟨_, _, _, _, _, _⟩) rfl rfl fun K hK => ?_
          refine wp_append_rd (.tmp 37) (.tmp 39) rfl rfl rfl own rd u3.size (i + 1) (by simp [HT.out.1]) (by omega) ?_
          intro a7 c7 w7 own7 hg7 _
          have u7 := u3.own own hg7
          refine hK _ _ (fun _ => u7) ?_
          clear hK K
          refine till_one (i := 11) (by kernel_rfl) ?_
          refine then_op (o := ⟨_, _, _, _, _, _⟩) rfl rfl fun K hK => ?_
          refine wp_append_rd (.tmp 40) (.tmp 43) rfl rfl rfl own7 (HR.out.2.upd u7 (fun _ _ h => h)) u7.size (n + 1) (by simp [HT.out.1, HT.out.2]; omega) (by omega) ?_
          intro a8 c8 w8 own8 hg8 _
          have u8 := u7.own own7 hg8
          refine hK _ _ (fun _ => u8) ?_
          clear hK K
          refine till_one (i := 12) (by kernel_rfl) ?_
          refine then_op (o := ⟨_, _, _, _, _, _⟩) rfl rfl fun K hK => ?_
          go_simp
          refine hK _ _ (fun h => by cases h) ?_
          clear hK K
          refine till_end (by kernel_rfl) ?_
          have D := Lib.hid (And.intro own8 u8)
          clear own8 u8 own7 u7 own rd u3 hg7 hg8
          go_wp2
          go_ret
          exact ⟨_, rfl, (by rw [hd.out]; exact D.out.1.weak hB), D.out.2.toBelow (Nat.le_refl _) (fun _ h => h.elim)⟩
      · have hx := Lib.hid hin
        have i2 : ¬ (i : Int) < (n : Int) := by omega
        clear hin
        go_upto_region 6 with fail
        clear hx
        have hne : Nonempty (Kept (Upd (fun _ => False) w)) := ⟨⟨w, Upd.refl _ w⟩⟩
        refine wp_region_fork [1, 2, 3, 5, 8, 9, 10] [12] 6 (Upd (fun _ => False) w) (by kernel_rfl) (by kernel_rfl) (fun _ _ _ _ _ h => h) (Upd.refl _ w).drew ?_
        show wpQuiet _ _ _ _ (List.filterMap _ _) _
        simp only [List.filterMap_cons, List.filterMap_nil, List.getElem?_toArray, List.getElem?_cons_zero, List.getElem?_cons_succ]
        show wpQuiet _ _ _ _ [_, _, _, _, _, _, _] _
        repeat (go_big_quiet_step (fail))
        refine wpQuiet_nil ?_
        refine till_two (i := 0) (k := 6) (by kernel_rfl) ?_ ?_
        · refine then_op (o := ⟨_, _, _, _, _, _⟩) rfl rfl fun K hK => ?_
          go_simp
          have u1 : Upd (fun _ => False) w (w.alloc (.cells #[] 3)).drew := ((Upd.refl _ w).alloc _).drew
          have own1 : Own (w.alloc (.cells #[] 3)).drew w.heap.size (.slice (some ⟨w.heap.size, 0, none⟩) 0 0) [] := (Own.empty w _ (Nat.le_refl _)).heap rfl
          refine hK _ _ (fun _ => u1) ?_
          clear hK K
          generalize (w.alloc (.cells #[] 3)).drew = w1 at u1 own1 ⊢
          refine till_two (i := 4) (k := 6) (by kernel_rfl) ?_ ?_
          · refine then_op (o := ⟨_, _, _, _, _, _⟩) rfl rfl fun K hK => ?_
            refine wp_append_rd (.tmp 33) (.tmp 36) rfl rfl rfl own1 (HR.out.1.rd.upd u1 (fun _ _ h => h)) u1.size i (by simp [HT.out.1]) (by omega) ?_
            intro a2 c2 w2 own2 hg2 _
            rw [List.nil_append] at own2
            have u2 := u1.own own1 hg2
            refine hK _ _ (fun _ => u2) ?_
            clear hK K
            refine till_one (i := 6) (by kernel_rfl) ?_
            refine then_op (o := ⟨_, _, _, _, _, _⟩) rfl rfl fun K hK => ?_
            go_simp
            have u3 := u2.alloc (.cells #[.int .i64 x] 3)
            have own := own2.alloc (.cells #[.int .i64 x] 3)
            have rd := Rd.one w2 x
            refine hK _ _ (fun _ => u3) ?_
            clear hK K own1 u1 own2 u2 hg2
            refine till_one (i := 7) (by kernel_rfl) ?_
            refine then_op (o := ⟨_, _, _, _, _, _⟩) rfl rfl fun K hK => ?_
            refine wp_append_rd (.tmp 37) (.tmp 39) rfl rfl rfl own rd u3.size (i + 1) (by simp [HT.out.1]) (by omega) ?_
            intro a7 c7 w7 own7 hg7 _
            have u7 := u3.own own hg7
            refine hK _ _ (fun _ => u7) ?_
            clear hK K
            refine till_one (i := 11) (by kernel_rfl) ?_
            refine then_op (o := ⟨_, _, _, _, _, _⟩) rfl rfl fun K hK => ?_
            refine wp_append_rd (.tmp 40) (.tmp 43) rfl rfl rfl own7 (HR.out.2.upd u7 (fun _ _ h => h)) u7.size (n + 1) (by simp [HT.out.1, HT.out.2]; omega) (by omega) ?_
            intro a8 c8 w8 own8 hg8 _
            have u8 := u7.own own7 hg8
            refine hK _ _ (fun _ => u8) ?_
            clear hK K
            refine till_one (i := 12) (by kernel_rfl) ?_
            refine then_op (o := ⟨_, _, _, _, _, _⟩) rfl rfl fun K hK => ?_
            go_simp
            refine hK _ _ (fun h => by cases h) ?_
            clear hK K
            refine till_end (by kernel_rfl) ?_
            have D := Lib.hid (And.intro own8 u8)
            clear own8 u8 own7 u7 own rd u3 hg7 hg8
            go_wp2
            go_ret
            exact ⟨_, rfl, (by rw [hd.out]; exact D.out.1.weak hB), D.out.2.toBelow (Nat.le_refl _) (fun _ h => h.elim)⟩
          · refine then_op (o := ⟨_, _, _, _, _, _⟩) rfl rfl fun K hK => ?_
            go_simp
            have u2 := u1.alloc (.cells #[.int .i64 x] 3)
            have own2 := own1.alloc (.cells #[.int .i64 x] 3)
            have rd2 := Rd.one w1 x
            refine hK _ _ (fun _ => u2) ?_
            clear hK K
            refine till_one (i := 4) (by kernel_rfl) ?_
            refine then_op (o := ⟨_, _, _, _, _, _⟩) rfl rfl fun K hK => ?_
            refine wp_append_rd (.tmp 33) (.tmp 36) rfl rfl rfl own2 (HR.out.1.rd.upd u2 (fun _ _ h => h)) u2.size i (by simp [HT.out.1]) (by omega) ?_
            intro a3 c3 w3 own hg3 _
            rw [List.nil_append] at own
            have u3 := u2.own own2 hg3
            have rd := rd2.grown hg3 (fun b hb e => by
              have h1 := own1.blt _ e
              have h2 : w1.heap.size = b := Option.some.inj hb
              omega)
            refine hK _ _ (fun _ => u3) ?_
            clear hK K own1 u1 own2 u2 hg3 rd2
            refine till_one (i := 7) (by kernel_rfl) ?_
            refine then_op (o := ⟨_, _, _, _, _, _⟩) rfl rfl fun K hK => ?_
            refine wp_append_rd (.tmp 37) (.tmp 39) rfl rfl rfl own rd u3.size (i + 1) (by simp [HT.out.1]) (by omega) ?_
            intro a7 c7 w7 own7 hg7 _
            have u7 := u3.own own hg7
            refine hK _ _ (fun _ => u7) ?_
            clear hK K
            refine till_one (i := 11) (by kernel_rfl) ?_
            refine then_op (o := ⟨_, _, _, _, _, _⟩) rfl rfl fun K hK => ?_
            refine wp_append_rd (.tmp 40) (.tmp 43) rfl rfl rfl own7 (HR.out.2.upd u7 (fun _ _ h => h)) u7.size (n + 1) (by simp [HT.out.1, HT.out.2]; omega) (by omega) ?_
            intro a8 c8 w8 own8 hg8 _
            have u8 := u7.own own7 hg8
            refine hK _ _ (fun _ => u8) ?_
            clear hK K
            refine till_one (i := 12) (by kernel_rfl) ?_
            refine then_op (o := ⟨_, _, _, _, _, _⟩) rfl rfl fun K hK => ?_
            go_simp
            refine hK _ _ (fun h => by cases h) ?_
            clear hK K
            refine till_end (by kernel_rfl) ?_
            have D := Lib.hid (And.intro own8 u8)
            clear own8 u8 own7 u7 own rd u3 hg7 hg8
            go_wp2
            go_ret
            exact ⟨_, rfl, (by rw [hd.out]; exact D.out.1.weak hB), D.out.2.toBelow (Nat.le_refl _) (fun _ h => h.elim)⟩
        · refine then_op (o := ⟨_, _, _, _, _, _⟩) rfl rfl fun K hK => ?_
          go_simp
          have u1 : Upd (fun _ => False) w (w.alloc (.cells #[.int .i64 x] 3)).drew := ((Upd.refl _ w).alloc _).drew
          have rd1 : Rd (w.alloc (.cells #[.int .i64 x] 3)).drew (.slice (some ⟨w.heap.size, 0, none⟩) 1 1) [x] := (Rd.one w x).heap rfl
          have hz : (w.alloc (.cells #[.int .i64 x] 3)).drew.heap.size = w.heap.size + 1 := by simp
          refine hK _ _ (fun _ => u1) ?_
          clear hK K
          generalize (w.alloc (.cells #[.int .i64 x] 3)).drew = w1 at u1 rd1 hz ⊢
          refine till_one (i := 0) (by kernel_rfl) ?_
          refine then_op (o := ⟨_, _, _, _, _, _⟩) rfl rfl fun K hK => ?_
          go_simp
          have u2 := u1.alloc (.cells #[] 3)
          have own2 : Own (w1.alloc (.cells #[] 3)) w.heap.size (.slice (some ⟨w1.heap.size, 0, none⟩) 0 0) [] := Own.empty w1 _ u1.size
          rw [hz] at own2
          have rd2 := rd1.alloc (.cells #[] 3)
          refine hK _ _ (fun _ => u2) ?_
          clear hK K
          refine till_one (i := 4) (by kernel_rfl) ?_
          refine then_op (o := ⟨_, _, _, _, _, _⟩) rfl rfl fun K hK => ?_
          refine wp_append_rd (.tmp 33) (.tmp 36) rfl rfl rfl own2 (HR.out.1.rd.upd u2 (fun _ _ h => h)) u2.size i (by simp [HT.out.1]) (by omega) ?_
          intro a3 c3 w3 own hg3 _
          rw [List.nil_append] at own
          have u3 := u2.own own2 hg3
          have rd := rd2.grown hg3 (fun b hb e => by
            have h1 : w.heap.size + 1 = b := Option.some.inj e
            have h2 : w.heap.size = b := Option.some.inj hb
            omega)
          refine hK _ _ (fun _ => u3) ?_
          clear hK K u1 own2 u2 hg3 rd2 rd1 hz
          refine till_one (i := 7) (by kernel_rfl) ?_
          refine then_op (o := ⟨_, _, _, _, _, _⟩) rfl rfl fun K hK => ?_
          refine wp_append_rd (.tmp 37) (.tmp 39) rfl rfl rfl own rd u3.size (i + 1) (by simp [HT.out.1]) (by omega) ?_
          intro a7 c7 w7 own7 hg7 _
          have u7 := u3.own own hg7
          refine hK _ _ (fun _ => u7) ?_
          clear hK K
          refine till_one (i := 11) (by kernel_rfl) ?_
          refine then_op (o := ⟨_, _, _, _, _, _⟩) rfl rfl fun K hK => ?_
          refine wp_append_rd (.tmp 40) (.tmp 43) rfl rfl rfl own7 (HR.out.2.upd u7 (fun _ _ h => h)) u7.size (n + 1) (by simp [HT.out.1, HT.out.2]; omega) (by omega) ?_
          intro a8 c8 w8 own8 hg8 _
          have u8 := u7.own own7 hg8
          refine hK _ _ (fun _ => u8) ?_
          clear hK K
          refine till_one (i := 12) (by kernel_rfl) ?_
          refine then_op (o := ⟨_, _, _, _, _, _⟩) rfl rfl fun K hK => ?_
          go_simp
          refine hK _ _ (fun h => by cases h) ?_
          clear hK K
          refine till_end (by kernel_rfl) ?_
          have D := Lib.hid (And.intro own8 u8)
          clear own8 u8 own7 u7 own rd u3 hg7 hg8
          go_wp2
          go_ret
          exact ⟨_, rfl, (by rw [hd.out]; exact D.out.1.weak hB), D.out.2.toBelow (Nat.le_refl _) (fun _ h => h.elim)⟩
theorem rput_any (w : World) (B : Nat) (v : Value) (l : List Int) (x : Int) (h : Own w B v l) (hl : l.length ≤ 1000000) (hB : B ≤ w.heap.size) :
    Calls Tryd.prog 47 #[v, .int .i64 x] w (PutR B (insL x l) w) := by
  obtain ⟨a, c, rfl⟩ := h.rd.form
  obtain ⟨e, b, off, ha, hc⟩ := h.rd.plain
  exact rput_core w B b off _ c a l x h hl hB ha hc

/-- What Out hands back. -/
def OutR (B : Nat) (m : List Int) (b : Bool) (w : World) (e : Ending) (w' : World) : Prop := ∃ v', e = .returned (.tuple #[v', .bool b]) ∧ Own w' B v' m ∧ Below w.heap.size w w'
theorem rout_core (w : World) (B b off n c : Nat) (a : Option Addr) (l : List Int) (x : Int) (h : Own w B (.slice a n c) l) (hn : n ≤ 1000000) (hB : B ≤ w.heap.size) (ha : 0 < n → a = some ⟨b, off, none⟩)
    (hc : ∀ j, j < n → w.cell? ⟨b, off + j, none⟩ = some (.int .i64 (l.getD j 0))) :
    Calls Tryd.prog 48 #[.slice a n c, .int .i64 x] w (OutR B (delL x l) (hasL l x) w) := by
  have HC := Lib.hid hc
  have hcap := h.cap
  have hnc := hcap.2
  have HN := Lib.hid (And.intro hcap.1 (And.intro ha h))
  clear hc ha h hcap
  go_enter Tryd.func48, Tryd.ntmps48
  go_wp2
  go_loop [6] (fun p => ∃ i : Nat, i ≤ n ∧ p = .int .i64 i ∧ Hid (∀ j, j < i → l.getD j 0 ≠ x)) (fun p => n - (intOf p).toNat)
  case atStart => exact ⟨0, by omega, rfl, fun j hj => absurd hj (by omega)⟩
  case round =>
    obtain ⟨i, hi, rfl, he⟩ := hrel
    have hways : (i < n ∧ l.getD i 0 ≠ x) ∨ (i < n ∧ l.getD i 0 = x) ∨ i = n := by omega
    rcases hways with ⟨hlt, hx⟩ | ⟨hlt, hx⟩ | hin
    · obtain rfl := HN.out.2.1 (by omega)
      have c1 := HC.out i hlt
      have HX := Lib.hid hx
      generalize l.getD i 0 = y at c1 hx
      have i1 : (0 : Int) ≤ (i : Int) := by omega
      have i2 : (i : Int) < (n : Int) := by omega
      have d1 : (y == x) = false := by simpa using hx
      clear hx
      go_wp2
      go_round
      case rel =>
        refine ⟨i + 1, by omega, by go_num, fun j hj => ?_⟩
        by_cases e : j = i
        · subst e; exact HX.out
        · exact he.out j (by omega)
      case measure => simp [intOf]; omega
    · obtain rfl := HN.out.2.1 (by omega)
      have c1 := HC.out i hlt
      have hd := Lib.hid (delL_at l i (by rw [HN.out.1]; exact hlt) he.out hx)
      have hd2 := Lib.hid (hasL_at (x := x) (by rw [HN.out.1]; exact hlt) hx)
      obtain ⟨hown, hrd⟩ : Own w B (.slice (some ⟨b, off, none⟩) i c) (l.take i) ∧ Rd w (sliced (some ⟨b, off, none⟩) (i + 1) n c 1) (l.drop (i + 1)) :=
        ⟨HN.out.2.2.take i (by rw [HN.out.1]; exact hi) _ c (by rw [HN.out.1]), HN.out.2.2.rd.cut HN.out.1 hnc (i + 1) hlt⟩
      have hs1 := slice_to (some ⟨b, off, none⟩) n c i hi hnc
      have hs2 := slice_from (some ⟨b, off, none⟩) n c (i + 1) hlt hnc
      obtain ⟨A, C, hAC⟩ : ∃ A C, sliced (some ⟨b, off, none⟩) (i + 1) n c 1 = .slice A (n - (i + 1)) C := ⟨_, _, rfl⟩
      rw [hAC] at hs2 hrd
      rw [show ((i + 1 : Nat) : Int) = (i : Int) + 1 by omega] at hs2
      have HR := Lib.hid (And.intro hown hrd)
      have HT := Lib.hid (show (l.take i).length = i ∧ (l.drop (i + 1)).length = n - (i + 1) by have := HN.out.1; simp; omega)
      rw [hx] at c1
      clear hown hrd hAC he hx
      have i1 : (0 : Int) ≤ (i : Int) := by omega
      have i2 : (i : Int) < (n : Int) := by omega
      have i3 : (i : Int) ≤ (n : Int) := by omega
      have i4 : (i : Int) + 1 ≤ (n : Int) := by omega
      have i5 : (0 : Int) ≤ (i : Int) + 1 := by omega
      go_upto_region 5 with fail
      have wr1 : IntKind.i64.wrap ((i : Int) + 1) = (i : Int) + 1 := IntWalk.i64_in _ (by omega)
      have hne : Nonempty (Kept (Upd (fun _ => False) w)) := ⟨⟨w, Upd.refl _ w⟩⟩
      clear c1
      refine wp_region_planZ [seg (Upd (fun _ => False) w) [10, 11] [1, 2, 3, 5, 6, 7, 8] [0, 4, 9, 10, 11]] (by kernel_rfl) (by kernel_rfl) (fun _ _ _ _ _ h => h) ?_
      refine planZ_seg (Upd.refl _ w).drew ?_
      show wpQuiet _ _ _ _ (List.filterMap _ _) _
      simp only [List.filterMap_cons, List.filterMap_nil, List.getElem?_toArray, List.getElem?_cons_zero, List.getElem?_cons_succ]
      show wpQuiet _ _ _ _ [_, _, _, _, _, _, _] _
      repeat (go_big_quiet_step (fail))
      refine wpQuiet_nil ?_
      clear wr1
      refine planZ_op (o := ⟨_, _, _, _, _, _⟩) rfl rfl fun K hK => ?_
      go_simp
      have u1 : Upd (fun _ => False) w (w.alloc (.cells #[] 3)).drew := ((Upd.refl _ w).alloc _).drew
      have own1 : Own (w.alloc (.cells #[] 3)).drew w.heap.size (.slice (some ⟨w.heap.size, 0, none⟩) 0 0) [] := (Own.empty w _ (Nat.le_refl _)).heap rfl
      refine hK _ _ (fun _ => ⟨⟨_, u1⟩, rfl⟩) ?_
      clear hK K
      generalize (w.alloc (.cells #[] 3)).drew = w1 at u1 own1 ⊢
      refine planZ_op (o := ⟨_, _, _, _, _, _⟩) rfl rfl fun K hK => ?_
      refine wp_append_rd (.tmp 19) (.tmp 22) rfl rfl rfl own1 (HR.out.1.rd.upd u1 (fun _ _ h => h)) u1.size i (by simp [HT.out.1]) (by omega) ?_
      intro a2 c2 w2 own2 hg2 _
      rw [List.nil_append] at own2
      have u2 := u1.own own1 hg2
      refine hK _ _ (fun _ => ⟨⟨_, u2⟩, rfl⟩) ?_
      clear hK K
      refine planZ_op (o := ⟨_, _, _, _, _, _⟩) rfl rfl fun K hK => ?_
      refine wp_append_rd (.tmp 23) (.tmp 27) rfl rfl rfl own2 (HR.out.2.upd u2 (fun _ _ h => h)) u2.size (n - 1) (by simp [HT.out.1, HT.out.2]; omega) (by omega) ?_
      intro a3 c3 w3 own3 hg3 _
      have u3 := u2.own own2 hg3
      refine hK _ _ (fun _ => ⟨⟨_, u3⟩, rfl⟩) ?_
      clear hK K
      have D := Lib.hid (And.intro own3 u3)
      clear own3 u3 own2 u2 own1 u1 hg3 hg2
      refine planZ_op (o := ⟨_, _, _, _, _, _⟩) rfl rfl fun K hK => ?_
      go_simp
      refine hK _ _ (fun h => by cases h) ?_
      clear hK K
      refine planZ_op (o := ⟨_, _, _, _, _, _⟩) rfl rfl fun K hK => ?_
      go_simp
      refine hK _ _ (fun h => by cases h) ?_
      clear hK K
      unfold ChainZ PlanZ
      go_wp2
      go_ret2
      exact ⟨_, (by rw [hd2.out]; rfl), (by rw [hd.out]; exact D.out.1.weak hB), D.out.2.toBelow (Nat.le_refl _) (fun _ h => h.elim)⟩
    · have hno := hasL_not (l := l) (x := x) (fun j hj => he.out j (by have := HN.out.1; omega))
      have hd := Lib.hid (And.intro hno (delL_not l hno))
      have i2 : ¬ (i : Int) < (n : Int) := by omega
      clear hin hno
      go_wp2
      go_ret2
      exact ⟨_, (by rw [hd.out.1]; rfl), (by rw [hd.out.2]; exact HN.out.2.2), Below.refl _ _⟩
theorem rout_any (w : World) (B : Nat) (v : Value) (l : List Int) (x : Int) (h : Own w B v l) (hl : l.length ≤ 1000000) (hB : B ≤ w.heap.size) :
    Calls Tryd.prog 48 #[v, .int .i64 x] w (OutR B (delL x l) (hasL l x) w) := by
  obtain ⟨a, c, rfl⟩ := h.rd.form
  obtain ⟨e, b, off, ha, hc⟩ := h.rd.plain
  exact rout_core w B b off _ c a l x h hl hB ha hc
end Go.Proofs.YtpbghoddemffhaaDoor
