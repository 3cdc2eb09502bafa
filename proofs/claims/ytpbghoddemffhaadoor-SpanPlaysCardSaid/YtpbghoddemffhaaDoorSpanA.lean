/-
  The walk of SpanAddrs: it returns true whatever came in. Under: the library's table.
-/
import Derived.Test.YtpbghoddemffhaaDoorSpT
namespace Go.Proofs.YtpbghoddemffhaaDoor
open Go.RowKit
set_option maxRecDepth 100000
set_option maxHeartbeats 2000000

/-- The numbers of a class: its size, its places, its pages. -/
theorem cls_nums (k : Nat) (hk : k < 16) : ∃ s n P : Nat, szN k = (s : Int) ∧ slN k = (n : Int) ∧ pgN k = (P : Int) ∧ 1 ≤ s ∧ s ≤ 256 ∧ 1 ≤ n ∧ n ≤ 64 ∧ 1 ≤ P ∧ P ≤ 4 ∧ n * s ≤ P * 64 := by
  have h1 := tab_bd k hk
  have h2 := sl_bd k hk
  have h3 := pg_bd k hk
  have h4 := sl_eq k hk
  have e1 : szN k = tabL.getD k 0 := atL_nat _ _ hk
  have e2 : slN k = slL.getD k 0 := atL_nat _ _ hk
  have e3 : pgN k = pgL.getD k 0 := atL_nat _ _ hk
  rw [← e1] at h1 h4
  rw [← e2] at h2 h4
  rw [← e3] at h3 h4
  obtain ⟨s, hs⟩ := Int.eq_ofNat_of_zero_le (show 0 ≤ szN k by omega)
  obtain ⟨n, hn⟩ := Int.eq_ofNat_of_zero_le (show 0 ≤ slN k by omega)
  obtain ⟨P, hP⟩ := Int.eq_ofNat_of_zero_le (show 0 ≤ pgN k by omega)
  rw [hs] at h1 h4
  rw [hn] at h2 h4
  rw [hP] at h3 h4
  refine ⟨s, n, P, hs, hn, hP, by omega, by omega, by omega, by omega, by omega, by omega, ?_⟩
  have h5 : P * 64 / s = n := by
    have : ((P * 64 / s : Nat) : Int) = (n : Int) := by rw [Int.natCast_ediv]; exact h4
    omega
  rw [← h5]
  exact Nat.div_mul_le_self _ _

theorem addrs_core (class_ first addr : Int) (k f0 f d s n P F x L : Nat) (w : World) (hT : Tab w)
    (u1 : 0 ≤ IntKind.u64.wrap class_) (hk : IntKind.u64.wrap class_ % 16 = (k : Int)) (hk16 : k < 16)
    (u2 : 0 ≤ IntKind.u64.wrap first) (hf0 : IntKind.u64.wrap first % 1000 = (f0 : Int)) (hf : 1 + (f0 : Int) = (f : Int)) (hf1000 : f ≤ 1000)
    (u3 : 0 ≤ IntKind.u64.wrap addr) (hd : IntKind.u64.wrap addr % 600 = (d : Int)) (hd600 : d < 600)
    (hs : szN k = (s : Int)) (hn : slN k = (n : Int)) (hP : pgN k = (P : Int)) (hs1 : 1 ≤ s) (hs2 : s ≤ 256) (hn1 : 1 ≤ n) (hn2 : n ≤ 64) (hP1 : 1 ≤ P) (hP2 : P ≤ 4)
    (hF : (f : Int) * 64 = (F : Int)) (hx : (F : Int) - 64 + (d : Int) = (x : Int)) (hL : (f : Int) * 64 + ((n - 1 : Nat) : Int) * (s : Int) = (L : Int)) (hLP : (L : Int) + (s : Int) ≤ ((f : Int) + (P : Int)) * 64) :
    Calls Tryd.prog 3 #[.int .i64 class_, .int .i64 first, .int .i64 addr] w fun e w' => e = .returned (.bool true) ∧ Below w.heap.size w w' := by
  have HT := Lib.hid hT
  have HS := Lib.hid hs
  have HN := Lib.hid hn
  have HP := Lib.hid hP
  have HL := Lib.hid (And.intro hL hLP)
  have HF := Lib.hid (And.intro hF hx)
  have hF1 : 64 ≤ F := by omega
  have hF2 : F ≤ 64000 := by omega
  have hx2 : x ≤ 70000 := by omega
  have hL2 : L ≤ 100000 := by have := hLP; omega
  clear hT hs hn hP hL hLP
  have hf1 : 1 ≤ f := by omega
  go_enter Tryd.func3, Tryd.ntmps3
  go_wp2_with fail
  refine (sp_new w f k n hk16 (by omega) (by omega) HN.out).mono ?_
  rintro e w1 ⟨h0, hb0⟩
  obtain ⟨p, u, ku, m, km, rfl, h1⟩ := SpIn.new h0 hb0
  clear h0 hb0 hf0 u2 u1 hk
  go_wp2_with fail
  refine (rsize_any _ _).mono ?_
  rintro e w2 ⟨rfl, hb2⟩
  have h2 := h1.step hb2
  rw [HS.out]
  clear h1 hb2
  go_wp2_with fail
  clear u3 hd
  have wF : IntKind.i64.wrap (F : Int) = (F : Int) := IntWalk.i64_in _ (by omega)
  by_cases hlow : d < 64
  · refine (sp_at_low _ _ _ _ _ _ _ _ _ _ _ _ h2.at_ x (by omega)).mono ?_
    rintro e w5 ⟨rfl, hw5⟩
    subst hw5
    have h5 := h2
    clear h2
    have i0 : decide (F ≤ x) = false := decide_eq_false (by omega)
    clear hx hf
    have H8 := Lib.hid h5
    go_upto_region 8 with fail
    refine wp_region_after w2.heap.size w2 (by kernel_rfl) (by kernel_rfl) (Below.refl _ _) ?_
    repeat (go_big_quiet_step ((go_at_call 16; exact after_call (((sp_slots _ p u ku m km n f k 0 _ _ (H8.out.step (Subtype.property _)).at_).mono fun _ _ ⟨he, hw⟩ => ⟨he, hw ▸ Below.refl _ _⟩)))))
    refine wpQuiet_nil ?_
    clear h5
    intro w6 hb6
    have h5 := H8.out.step hb6
    clear H8 hb6
    go_wp2_with fail
    refine (told6_any _ (h5.tab HT.out rfl)).mono ?_
    rintro e w7 ⟨rfl, hb7⟩
    have h6 := h5.step hb7
    clear h5 hb7
    go_wp2_with fail
    refine (sp_slots _ _ _ _ _ _ _ _ _ _ _ _ h6.at_).mono ?_
    rintro e w' ⟨rfl, rfl⟩
    go_wp2_with fail
    rw [show (n : Int) - 1 = ((n - 1 : Nat) : Int) by omega]
    refine (sp_addr _ p u ku m km n f k 0 _ _ h6.at_ (n - 1) (by omega) (by omega)).mono ?_
    rintro e w8 ⟨rfl, hb8⟩
    have h8 := h6.step hb8
    rw [HS.out, show (f : Int) * 64 + ((n - 1 : Nat) : Int) * (s : Int) = (L : Int) from HL.out.1]
    clear h6 hb8
    go_wp2_with fail
    refine (rpages_any _ _).mono ?_
    rintro e w9 ⟨rfl, hb9⟩
    have h9 := h8.step hb9
    rw [HP.out]
    clear h8 hb9
    have l1 : (L : Int) + (s : Int) ≤ ((f : Int) + (P : Int)) * 64 := HL.out.2
    go_wp2_with fail
    refine (sp_slots _ _ _ _ _ _ _ _ _ _ _ _ h9.at_).mono ?_
    rintro e w' ⟨rfl, rfl⟩
    clear l1
    go_wp2_with fail
    refine (sp_addr_out _ _ _ _ _ _ _ _ _ _ _ _ h9.at_ n (.inr (by omega))).mono ?_
    rintro e w' ⟨rfl, rfl⟩
    go_wp2_with fail
    go_ret
    exact ⟨rfl, h9.below⟩
  · obtain ⟨dd, rfl⟩ : ∃ dd, d = 64 + dd := ⟨d - 64, by omega⟩
    refine (sp_at w2 p u ku m km n f k 0 _ _ h2.at_ x dd s (by omega) (by omega) HS.out hs1 hs2).mono ?_
    rintro e w5 ⟨hres, hb5⟩
    have h5 := h2.step hb5
    clear h2 hb5
    have i0 : (F : Int) ≤ (x : Int) := by omega
    have hXF : (x : Int) - (F : Int) = (dd : Int) := by omega
    obtain ⟨r, hr⟩ : ∃ r, r = dd % s := ⟨_, rfl⟩
    obtain ⟨t, ht⟩ : ∃ t, t = dd / s := ⟨_, rfl⟩
    have hm1 : (dd : Int).tmod (s : Int) = (r : Int) := by rw [hr]; rfl
    have hm2 : (dd : Int) % (s : Int) = (r : Int) := by rw [hr]; rfl
    have hq1 : (dd : Int).tdiv (s : Int) = (t : Int) := by rw [ht]; rfl
    have hq2 : (dd : Int) / (s : Int) = (t : Int) := by rw [ht]; rfl
    have hrs : r < s := by rw [hr]; exact Nat.mod_lt _ (by omega)
    have htd : t ≤ dd := by rw [ht]; exact Nat.div_le_self _ _
    have hdd : dd ≤ 536 := by omega
    have wD : IntKind.i64.wrap (dd : Int) = (dd : Int) := IntWalk.i64_in _ (by omega)
    have wr : IntKind.i64.wrap (r : Int) = (r : Int) := IntWalk.i64_in _ (by omega)
    have wt : IntKind.i64.wrap (t : Int) = (t : Int) := IntWalk.i64_in _ (by omega)
    have d1 : ((s : Int) == 0) = false := by simp; omega
    have hdx : dd = s * t + r := by rw [hr, ht]; exact (Nat.div_add_mod dd s).symm
    rw [← hr, ← ht] at hres
    have HDX := Lib.hid hdx
    clear hr ht hdx
    by_cases h0 : r = 0
    · have g0 : ((r : Int) == 0) = true := by simp; omega
      by_cases h3 : t < n
      · rw [if_pos ⟨h0, h3⟩] at hres
        subst hres
        have HX := Lib.hid (show (f : Int) * 64 + (t : Int) * (s : Int) = (x : Int) by
          have e : (dd : Int) = (s : Int) * (t : Int) := by rw [← Int.natCast_mul]; have := HDX.out; omega
          rw [Int.mul_comm (t : Int), ← e]; omega)
        have g1 : (t : Int) < (n : Int) := by omega
        clear hx hf h0 hdd htd hrs
        have H8 := Lib.hid h5
        go_upto_region 8 with fail
        refine wp_region_after w5.heap.size w5 (by kernel_rfl) (by kernel_rfl) (Below.refl _ _) ?_
        repeat (go_big_quiet_step ((go_at_call 16; exact after_call (((sp_slots _ p u ku m km n f k 0 _ _ (H8.out.step (Subtype.property _)).at_).mono fun _ _ ⟨he, hw⟩ => ⟨he, hw ▸ Below.refl _ _⟩)))))
        refine wpQuiet_nil ?_
        clear h5
        intro w6 hb6
        have h5 := H8.out.step hb6
        clear H8 hb6
        go_wp2_with fail
        refine (told6_any _ (h5.tab HT.out rfl)).mono ?_
        rintro e w7 ⟨rfl, hb7⟩
        have h6 := h5.step hb7
        clear h5 hb7
        go_wp2_with fail
        refine (sp_addr _ p u ku m km n f k 0 _ _ h6.at_ t (by omega) (by omega)).mono ?_
        rintro e w10 ⟨rfl, hb10⟩
        have h10 := h6.step hb10
        rw [HS.out, show (f : Int) * 64 + (t : Int) * (s : Int) = (x : Int) from HX.out]
        clear h6 hb10
        have h6 := h10
        clear h10
        go_wp2_with fail
        refine (sp_slots _ _ _ _ _ _ _ _ _ _ _ _ h6.at_).mono ?_
        rintro e w' ⟨rfl, rfl⟩
        go_wp2_with fail
        rw [show (n : Int) - 1 = ((n - 1 : Nat) : Int) by omega]
        refine (sp_addr _ p u ku m km n f k 0 _ _ h6.at_ (n - 1) (by omega) (by omega)).mono ?_
        rintro e w8 ⟨rfl, hb8⟩
        have h8 := h6.step hb8
        rw [HS.out, show (f : Int) * 64 + ((n - 1 : Nat) : Int) * (s : Int) = (L : Int) from HL.out.1]
        clear h6 hb8
        go_wp2_with fail
        refine (rpages_any _ _).mono ?_
        rintro e w9 ⟨rfl, hb9⟩
        have h9 := h8.step hb9
        rw [HP.out]
        clear h8 hb9
        have l1 : (L : Int) + (s : Int) ≤ ((f : Int) + (P : Int)) * 64 := HL.out.2
        go_wp2_with fail
        refine (sp_slots _ _ _ _ _ _ _ _ _ _ _ _ h9.at_).mono ?_
        rintro e w' ⟨rfl, rfl⟩
        clear l1
        go_wp2_with fail
        refine (sp_addr_out _ _ _ _ _ _ _ _ _ _ _ _ h9.at_ n (.inr (by omega))).mono ?_
        rintro e w' ⟨rfl, rfl⟩
        go_wp2_with fail
        go_ret
        exact ⟨rfl, h9.below⟩
      · rw [if_neg (fun h => h3 h.2)] at hres
        subst hres
        have g1 : ¬ (t : Int) < (n : Int) := by omega
        clear hx hf h0 hdd htd hrs
        have H8 := Lib.hid h5
        go_upto_region 8 with fail
        refine wp_region_after w5.heap.size w5 (by kernel_rfl) (by kernel_rfl) (Below.refl _ _) ?_
        repeat (go_big_quiet_step ((go_at_call 16; exact after_call (((sp_slots _ p u ku m km n f k 0 _ _ (H8.out.step (Subtype.property _)).at_).mono fun _ _ ⟨he, hw⟩ => ⟨he, hw ▸ Below.refl _ _⟩)))))
        refine wpQuiet_nil ?_
        clear h5
        intro w6 hb6
        have h5 := H8.out.step hb6
        clear H8 hb6
        go_wp2_with fail
        refine (told6_any _ (h5.tab HT.out rfl)).mono ?_
        rintro e w7 ⟨rfl, hb7⟩
        have h6 := h5.step hb7
        clear h5 hb7
        go_wp2_with fail
        refine (sp_slots _ _ _ _ _ _ _ _ _ _ _ _ h6.at_).mono ?_
        rintro e w' ⟨rfl, rfl⟩
        go_wp2_with fail
        rw [show (n : Int) - 1 = ((n - 1 : Nat) : Int) by omega]
        refine (sp_addr _ p u ku m km n f k 0 _ _ h6.at_ (n - 1) (by omega) (by omega)).mono ?_
        rintro e w8 ⟨rfl, hb8⟩
        have h8 := h6.step hb8
        rw [HS.out, show (f : Int) * 64 + ((n - 1 : Nat) : Int) * (s : Int) = (L : Int) from HL.out.1]
        clear h6 hb8
        go_wp2_with fail
        refine (rpages_any _ _).mono ?_
        rintro e w9 ⟨rfl, hb9⟩
        have h9 := h8.step hb9
        rw [HP.out]
        clear h8 hb9
        have l1 : (L : Int) + (s : Int) ≤ ((f : Int) + (P : Int)) * 64 := HL.out.2
        go_wp2_with fail
        refine (sp_slots _ _ _ _ _ _ _ _ _ _ _ _ h9.at_).mono ?_
        rintro e w' ⟨rfl, rfl⟩
        clear l1
        go_wp2_with fail
        refine (sp_addr_out _ _ _ _ _ _ _ _ _ _ _ _ h9.at_ n (.inr (by omega))).mono ?_
        rintro e w' ⟨rfl, rfl⟩
        go_wp2_with fail
        go_ret
        exact ⟨rfl, h9.below⟩
    · rw [if_neg (fun h => h0 h.1)] at hres
      subst hres
      have g0 : ((r : Int) == 0) = false := by simp; omega
      clear hx hf h0 hdd htd hrs
      have H8 := Lib.hid h5
      go_upto_region 8 with fail
      refine wp_region_after w5.heap.size w5 (by kernel_rfl) (by kernel_rfl) (Below.refl _ _) ?_
      repeat (go_big_quiet_step ((go_at_call 16; exact after_call (((sp_slots _ p u ku m km n f k 0 _ _ (H8.out.step (Subtype.property _)).at_).mono fun _ _ ⟨he, hw⟩ => ⟨he, hw ▸ Below.refl _ _⟩)))))
      refine wpQuiet_nil ?_
      clear h5
      intro w6 hb6
      have h5 := H8.out.step hb6
      clear H8 hb6
      go_wp2_with fail
      refine (told6_any _ (h5.tab HT.out rfl)).mono ?_
      rintro e w7 ⟨rfl, hb7⟩
      have h6 := h5.step hb7
      clear h5 hb7
      go_wp2_with fail
      refine (sp_slots _ _ _ _ _ _ _ _ _ _ _ _ h6.at_).mono ?_
      rintro e w' ⟨rfl, rfl⟩
      go_wp2_with fail
      rw [show (n : Int) - 1 = ((n - 1 : Nat) : Int) by omega]
      refine (sp_addr _ p u ku m km n f k 0 _ _ h6.at_ (n - 1) (by omega) (by omega)).mono ?_
      rintro e w8 ⟨rfl, hb8⟩
      have h8 := h6.step hb8
      rw [HS.out, show (f : Int) * 64 + ((n - 1 : Nat) : Int) * (s : Int) = (L : Int) from HL.out.1]
      clear h6 hb8
      go_wp2_with fail
      refine (rpages_any _ _).mono ?_
      rintro e w9 ⟨rfl, hb9⟩
      have h9 := h8.step hb9
      rw [HP.out]
      clear h8 hb9
      have l1 : (L : Int) + (s : Int) ≤ ((f : Int) + (P : Int)) * 64 := HL.out.2
      go_wp2_with fail
      refine (sp_slots _ _ _ _ _ _ _ _ _ _ _ _ h9.at_).mono ?_
      rintro e w' ⟨rfl, rfl⟩
      clear l1
      go_wp2_with fail
      refine (sp_addr_out _ _ _ _ _ _ _ _ _ _ _ _ h9.at_ n (.inr (by omega))).mono ?_
      rintro e w' ⟨rfl, rfl⟩
      go_wp2_with fail
      go_ret
      exact ⟨rfl, h9.below⟩
theorem SpanAddrs_walk (w : World) (hT : Tab w) (class_ first addr : Int) :
    Calls Tryd.prog 3 #[.int .i64 class_, .int .i64 first, .int .i64 addr] w fun e w' => e = .returned (.bool true) ∧ Below w.heap.size w w' := by
  have u1 : 0 ≤ IntKind.u64.wrap class_ := by rw [IntKind.wrap_u64]; exact Int.emod_nonneg _ (by omega)
  have u2 : 0 ≤ IntKind.u64.wrap first := by rw [IntKind.wrap_u64]; exact Int.emod_nonneg _ (by omega)
  have u3 : 0 ≤ IntKind.u64.wrap addr := by rw [IntKind.wrap_u64]; exact Int.emod_nonneg _ (by omega)
  have a1 : IntKind.u64.wrap class_ % 16 < 16 := Int.emod_lt_of_pos _ (by omega)
  have a2 : IntKind.u64.wrap first % 1000 < 1000 := Int.emod_lt_of_pos _ (by omega)
  have a3 : IntKind.u64.wrap addr % 600 < 600 := Int.emod_lt_of_pos _ (by omega)
  obtain ⟨k, hk⟩ := Int.eq_ofNat_of_zero_le (show 0 ≤ IntKind.u64.wrap class_ % 16 from Int.emod_nonneg _ (by omega))
  obtain ⟨f0, hf0⟩ := Int.eq_ofNat_of_zero_le (show 0 ≤ IntKind.u64.wrap first % 1000 from Int.emod_nonneg _ (by omega))
  obtain ⟨d, hd⟩ := Int.eq_ofNat_of_zero_le (show 0 ≤ IntKind.u64.wrap addr % 600 from Int.emod_nonneg _ (by omega))
  obtain ⟨s, n, P, e1, e2, e3, s1, s2, n1, n2, p1, p2, hns⟩ := cls_nums k (by omega)
  refine addrs_core class_ first addr k f0 (1 + f0) d s n P ((1 + f0) * 64) ((1 + f0) * 64 - 64 + d) ((1 + f0) * 64 + (n - 1) * s) w hT u1 hk (by omega) u2 hf0 (by omega) (by omega) u3 hd (by omega) e1 e2 e3 s1 s2 n1 n2 p1 p2 (by omega) (by omega) ?_ ?_
  · rw [Int.natCast_add ((1 + f0) * 64), Int.natCast_mul (n - 1)]; rfl
  · have h2 : (n - 1) * s + s = n * s := by
      rw [← Nat.succ_mul, show (n - 1).succ = n by omega]
    have h3 : (n - 1) * s + s ≤ P * 64 := by omega
    generalize (n - 1) * s = z at h3 ⊢
    omega
end Go.Proofs.YtpbghoddemffhaaDoor
