/- Joined: ReconP, ReconQ, ReconF, ReconI, Row, Row2, LawReconKnown. -/
import Derived.ProofKit
import Derived.OpenShut
import Derived.ShutString
import Derived.ChangeOld
import Derived.SizedLaws
import Derived.ChangeSlices
import Derived.Carry
import Derived.Test.YtmefpnklgfhggaaGreatDoorRows
import Derived.Deep.DeepHandedRow
import Derived.Lib.LaidTab
import Derived.Test.YtmefpnklgfhggaaGreatDoorZReconKnownCard5
/- Recon, plainly: what one side comes to know. -/
namespace Go.Proofs.YtmefpnklgfhggaaGreatDoor
open Go.RowKit

def rN (n : Int) : Nat := if 1023 ≤ n then 1 else if 512 ≤ n then 2 else if 256 ≤ n then 3 else if 128 ≤ n then 4 else if 64 ≤ n then 5 else if 32 ≤ n then 6 else if 16 ≤ n then 7 else 8
theorem rN_le (n : Int) : 1 ≤ rN n ∧ rN n ≤ 8 := by
  unfold rN
  repeat' split
  all_goals omega
theorem rN_next {n : Int} (h : 12 ≤ n) (h2 : ¬ n = 1023) (h3 : n ≤ 1023) : rN (min (2 * n) 1023) + 1 ≤ rN n := by
  unfold rN
  repeat' split
  all_goals omega
theorem goodN_next {n : Int} (h : goodN n = true) : goodN (min (2 * n) 1023) = true := by
  unfold goodN at *
  have h := of_decide_eq_true h
  exact decide_eq_true (by omega)
/-- How many more answers there can be. -/
def Sd.mu (s : Sd) : Nat := if s.kind = 1 then 10 else if s.kind = 2 then rN s.n + 1 else if s.kind = 3 then 1 else 0
/-- What is told when it is known. -/
structure SFin (s : Sd) (Y : List Sm) : Prop where
  srtT : srt s.theirs
  srtO : srt s.ours
  out : ∀ z ∈ s.theirs, z ∉ s.mine
  inn : ∀ z ∈ s.ours, z ∈ s.mine
  tell : tellS (setL (minusL s.mine s.ours ++ s.theirs)) = tellS Y
structure Sd.Inv (s : Sd) (M Y : List Sm) : Prop where
  mine : s.mine = M
  seed : s.seed < 18446744073709551616
  n0 : 0 ≤ s.n
  n1 : s.n ≤ 1023
  rounds : s.rounds + s.mu ≤ 10
  lenT : s.theirs.length ≤ 1025
  lenO : s.ours.length ≤ 1025
  kind : s.kind = 1 ∨ (s.kind = 2 ∧ goodN s.n = true ∧ 12 ≤ s.n) ∨ s.kind = 3 ∨ (s.kind = 0 ∧ SFin s Y)
theorem Sd.Inv.wants {s : Sd} {M Y : List Sm} (h : s.Inv M Y) (hk : ¬ s.kind = 0) : s.Wants := by
  rcases h.kind with k | ⟨k, k2, _⟩ | k | ⟨k, _⟩
  · exact .inl k
  · exact .inr (.inl ⟨k, k2⟩)
  · exact .inr (.inr k)
  · exact absurd k hk
theorem inv_new (M Y : List Sm) (seed : Nat) (h : seed < 18446744073709551616) : (sd0 M seed).Inv M Y := ⟨rfl, h, (show (0 : Int) ≤ 0 by decide), (show (0 : Int) ≤ 1023 by decide), by show 0 + (Sd.mu (sd0 M seed)) ≤ 10; simp [Sd.mu, sd0], by simp [sd0], by simp [sd0], .inl rfl⟩
/-- All that is unlike, taken out and put in. -/
theorem exch_all {M Y : List Sm} (hY : srt Y) : setL (minusL M (minusL M Y) ++ minusL Y M) = Y := srt_ext (setL_srt _) hY fun z => by
  rw [setL_mem, List.mem_append, minusL_mem, minusL_mem, minusL_mem]
  constructor
  · rintro (⟨h1, h2⟩ | ⟨h1, _⟩)
    · exact Classical.byContradiction fun h => h2 ⟨h1, h⟩
    · exact h1
  · intro h
    by_cases hm : z ∈ M
    · exact .inl ⟨hm, fun h2 => h2.2 h⟩
    · exact .inr ⟨h, hm⟩
theorem inv_step {s : Sd} {M Y : List Sm} (h : s.Inv M Y) (hY : srt Y) (hYl : Y.length ≤ 512) (hMl : M.length ≤ 512) (hk : ¬ s.kind = 0) : (s.doS Y).Inv M Y ∧ (s.doE Y = 0 ∨ s.doE Y = 10) ∧ (s.doS Y).mu < s.mu := by
  have hg : goodL Y = true := by rw [goodL_srt hY, decide_eq_true hYl]
  have hr := h.rounds
  have hmod : (s.seed + 1) % 18446744073709551616 < 18446744073709551616 := Nat.mod_lt _ (by decide)
  rcases h.kind with k | ⟨k, k2, k3⟩ | k | ⟨k, _⟩
  · have e1 : s.doE Y = 0 := by
      unfold Sd.doE Sd.stE
      rw [if_pos k, if_pos k, stL_good, decide_eq_true rfl]; rfl
    have e2 : s.doS Y = s.st1 (stL s.seed Y) := by
      unfold Sd.doS Sd.stS Sd.stOk
      rw [if_pos k, stL_good, decide_eq_true k, decide_eq_true rfl]; rfl
    rw [e1, e2]
    obtain ⟨_, c1, c2, _, _⟩ := cells_law (a := (difGo s.seed (stL s.seed Y) (stL s.seed s.mine) 10 0 : Nat)) (b := (difGo s.seed (stL s.seed Y) (stL s.seed s.mine) 10 0 : Nat)) (Int.le_refl _)
    have cg := cells_good (difGo s.seed (stL s.seed Y) (stL s.seed s.mine) 10 0 : Nat)
    have m1 : s.mu = 10 := by unfold Sd.mu; rw [if_pos k]
    have hrN := rN_le (cellsN (difGo s.seed (stL s.seed Y) (stL s.seed s.mine) 10 0 : Nat))
    have m2 : (s.st1 (stL s.seed Y)).mu = rN (cellsN (difGo s.seed (stL s.seed Y) (stL s.seed s.mine) 10 0 : Nat)) + 1 := by
      unfold Sd.mu Sd.st1
      dsimp only
      rw [if_neg (by decide), if_pos rfl]
    refine ⟨⟨h.mine, hmod, ?_, ?_, ?_, h.lenT, h.lenO, .inr (.inl ⟨rfl, cg, c1⟩)⟩, .inl rfl, by omega⟩
    · show 0 ≤ cellsN _; omega
    · show cellsN _ ≤ 1023; omega
    · rw [m2]; show s.rounds + 1 + _ ≤ 10; omega
  · obtain ⟨N, hN, _⟩ := goodN_rng k2
    have hlen : ((ofL s.seed s.n Y).length : Int) = s.n := by rw [ofL_len k2]; omega
    have hok : s.tbOk s.seed (ofL s.seed s.n Y) = true := by
      unfold Sd.tbOk
      rw [decide_eq_true hlen, decide_eq_true rfl]; rfl
    have e1 : s.doE Y = if s.tbD (ofL s.seed s.n Y) (tellS Y) then 0 else 10 := by
      unfold Sd.doE Sd.tbE
      rw [if_neg (by omega), if_pos k, if_pos k, if_pos hok]
    have e2 : s.doS Y = s.tbS1 (ofL s.seed s.n Y) (tellS Y) := by
      unfold Sd.doS Sd.tbS
      rw [if_neg (by omega), if_pos k, if_pos k, if_pos hok]
    have m1 : s.mu = rN s.n + 1 := by unfold Sd.mu; rw [if_neg (by omega), if_pos k]
    have hrN := rN_le s.n
    rw [e1, e2]
    cases hd : s.tbD (ofL s.seed s.n Y) (tellS Y) with
    | true =>
      have e3 : s.tbS1 (ofL s.seed s.n Y) (tellS Y) = { s with kind := 0, n := 0, seed := 0, theirs := ownP s.seed (ofL s.seed s.n Y) s.mine, ours := ownQ s.seed (ofL s.seed s.n Y) s.mine, rounds := s.rounds + 1 } := by unfold Sd.tbS1; rw [hd]; rfl
      rw [e3]
      unfold Sd.tbD at hd
      rw [Bool.and_eq_true] at hd
      have hN0 := of_decide_eq_true hd.1
      have hT := of_decide_eq_true hd.2
      obtain ⟨_, _, _, eP, eQ, h1, h2⟩ := own_ok hN0
      refine ⟨⟨h.mine, (show (0 : Nat) < 18446744073709551616 by decide), (show (0 : Int) ≤ 0 by decide), (show (0 : Int) ≤ 1023 by decide), ?_, ownP_len _ _ _, ownQ_len _ _ _, .inr (.inr (.inr ⟨rfl, ⟨?_, ?_, ?_, ?_, hT⟩⟩))⟩, .inl rfl, ?_⟩
      · show s.rounds + 1 + 0 ≤ 10; omega
      · show srt (ownP _ _ _); rw [eP]; exact resP_srt
      · show srt (ownQ _ _ _); rw [eQ]; exact resM_srt
      · intro z hz hm
        have : z ∈ bothL (ownP s.seed (ofL s.seed s.n Y) s.mine) s.mine := bothL_mem.2 ⟨hz, hm⟩
        rw [h2] at this
        cases this
      · intro z hz
        refine Classical.byContradiction fun hm => ?_
        have : z ∈ minusL (ownQ s.seed (ofL s.seed s.n Y) s.mine) s.mine := minusL_mem.2 ⟨hz, hm⟩
        rw [h1] at this
        cases this
      · rw [m1]; show 0 < _; omega
    | false =>
      by_cases hn : s.n = 1023
      · have e3 : s.tbS1 (ofL s.seed s.n Y) (tellS Y) = { s with kind := 3, n := 0, seed := 0, rounds := s.rounds + 1 } := by unfold Sd.tbS1; rw [hd, if_neg (by decide), if_pos hn]
        rw [e3]
        refine ⟨⟨h.mine, (show (0 : Nat) < 18446744073709551616 by decide), (show (0 : Int) ≤ 0 by decide), (show (0 : Int) ≤ 1023 by decide), ?_, h.lenT, h.lenO, .inr (.inr (.inl rfl))⟩, .inr rfl, ?_⟩
        · show s.rounds + 1 + 1 ≤ 10; omega
        · rw [m1]; show 1 < _; omega
      · have e3 : s.tbS1 (ofL s.seed s.n Y) (tellS Y) = { s with kind := 2, n := min (2 * s.n) 1023, seed := (s.seed + 1) % 18446744073709551616, rounds := s.rounds + 1 } := by unfold Sd.tbS1; rw [hd, if_neg (by decide), if_neg hn]
        rw [e3]
        have hn1 := h.n1
        have hnx := rN_next k3 hn hn1
        have m2 : Sd.mu { s with kind := 2, n := min (2 * s.n) 1023, seed := (s.seed + 1) % 18446744073709551616, rounds := s.rounds + 1 } = rN (min (2 * s.n) 1023) + 1 := by
          unfold Sd.mu
          dsimp only
          rw [if_neg (by decide), if_pos rfl]
        refine ⟨⟨h.mine, hmod, ?_, ?_, ?_, h.lenT, h.lenO, .inr (.inl ⟨rfl, goodN_next k2, ?_⟩)⟩, .inr rfl, by omega⟩
        · show 0 ≤ min (2 * s.n) 1023; omega
        · show min (2 * s.n) 1023 ≤ 1023; omega
        · rw [m2]; show s.rounds + 1 + _ ≤ 10; omega
        · show 12 ≤ min (2 * s.n) 1023; omega
  · have e1 : s.doE Y = 0 := by
      unfold Sd.doE Sd.lsE
      rw [if_neg (by omega), if_neg (by omega), if_pos k, if_pos hg, if_pos rfl]
    have e2 : s.doS Y = Sd.fin { s with rounds := s.rounds + 1 } (minusL Y s.mine) (minusL s.mine Y) := by
      unfold Sd.doS Sd.lsS
      rw [if_neg (by omega), if_neg (by omega), if_pos k, if_pos hg, if_pos rfl]
    have m1 : s.mu = 1 := by unfold Sd.mu; rw [if_neg (by omega), if_neg (by omega), if_pos k]
    have l1 := minusL_len Y s.mine
    have l2 := minusL_len s.mine Y
    have l3 : s.mine.length ≤ 512 := by rw [h.mine]; exact hMl
    rw [e1, e2]
    refine ⟨⟨h.mine, (show (0 : Nat) < 18446744073709551616 by decide), (show (0 : Int) ≤ 0 by decide), (show (0 : Int) ≤ 1023 by decide), ?_, ?_, ?_, .inr (.inr (.inr ⟨rfl, ⟨minusL_srt _ _, minusL_srt _ _, ?_, ?_, ?_⟩⟩))⟩, .inl rfl, ?_⟩
    · show s.rounds + 1 + 0 ≤ 10; omega
    · show (minusL Y s.mine).length ≤ 1025; omega
    · show (minusL s.mine Y).length ≤ 1025; omega
    · exact fun z hz => (minusL_mem.1 hz).2
    · exact fun z hz => (minusL_mem.1 hz).1
    · show tellS (setL (minusL s.mine (minusL s.mine Y) ++ minusL Y s.mine)) = tellS Y
      rw [exch_all hY]
    · rw [m1]; exact Nat.zero_lt_one
  · exact absurd k hk
theorem cells2 : cellsN 2 = 12 := by decide
theorem g12r : goodN 12 = true := by decide
theorem lv1r : levelS (fewS 1) = 0 := by decide +kernel
theorem lv2r : levelS (fewS 2) = 0 := by decide +kernel
theorem lv3r : levelS (fewS 3) = 0 := by decide +kernel
theorem place7 : (isAt 7 24 3 (fewS 1) != isAt 7 24 3 (fewS 3)) = true := by decide +kernel
theorem place8 : (isAt 8 12 0 (fewS 1) != isAt 8 12 0 (fewS 3)) = true := by decide +kernel
theorem few_mem2 (a b : Int) (z : Sm) : z ∈ fewL [a, b] ↔ z = fewS a ∨ z = fewS b := by
  unfold fewL
  rw [setL_mem]
  simp
theorem lvl_all {X : List Sm} (h : ∀ z ∈ X, levelS z = 0) : lvl X 0 = X ∧ ∀ i, ¬ i = 0 → lvl X i = [] := by
  unfold lvl
  constructor
  · exact List.filter_eq_self.2 fun z hz => decide_eq_true (h z hz)
  · exact fun i hi => List.filter_eq_nil_iff.2 fun z hz => by rw [h z hz, decide_eq_true_eq]; exact fun e => hi e.symm
/-- What the document tells of three. -/
theorem three18 : ∃ s1 : Sd, (sd0 (fewL [2, 3]) 7).doS (fewL [1, 2]) = s1 ∧ (sd0 (fewL [2, 3]) 7).doE (fewL [1, 2]) = 0 ∧ s1.doE (fewL [1, 2]) = 0 ∧ s1.doS (fewL [1, 2]) = ⟨fewL [2, 3], 0, 0, 0, [fewS 1], [fewS 3], 2⟩ := by
  obtain ⟨hl1, hl2⟩ := less_two few12 few13 few23
  have l12 := fewL_len [1, 2]
  have l23 := fewL_len [2, 3]
  have s12 := fewL_srt [1, 2]
  have s23 := fewL_srt [2, 3]
  have hY : setL (fewL [1, 2]) = fewL [1, 2] := setL_self s12
  have hM : setL (fewL [2, 3]) = fewL [2, 3] := setL_self s23
  obtain ⟨a1, a2⟩ := lvl_all (X := fewL [1, 2]) fun z hz => by rcases (few_mem2 1 2 z).1 hz with rfl | rfl; exact lv1r; exact lv2r
  obtain ⟨b1, b2⟩ := lvl_all (X := fewL [2, 3]) fun z hz => by rcases (few_mem2 2 3 z).1 hz with rfl | rfl; exact lv2r; exact lv3r
  obtain ⟨t1, _⟩ := two16 (seed := 7) (n := 24) (X := fewL [1, 2]) (Y := fewL [2, 3]) g24 s23 (by simp at l23; omega) hl1 hl2 (j := 3) (by decide) place7
  obtain ⟨r1, r2, r3⟩ := ok_two (seed := 7) (N := 24) (x := fewS 1) (y := fewS 3) g24 few13 (j := 3) (by decide) place7
  have hd0 : difD (stL 7 (fewL [1, 2])) (stL 7 (fewL [2, 3])) 0 = twoT 7 24 (fewS 1) (fewS 3) := by
    rw [dif_lvl 7 _ _ (by decide), hY, hM, a1, b1]
    exact t1
  have hdi : ∀ i, i < 10 → ¬ i = 0 → resN 7 (difD (stL 7 (fewL [1, 2])) (stL 7 (fewL [2, 3])) i) = 0 ∧ difC 7 (stL 7 (fewL [1, 2])) (stL 7 (fewL [2, 3])) i = 0 := fun i hi h0 => dif_same 7 hi (by rw [hY, hM, a2 i h0, b2 i h0])
  have hc0 : difC 7 (stL 7 (fewL [1, 2])) (stL 7 (fewL [2, 3])) 0 = 2 := by
    unfold difC
    rw [hd0, r2, r3]; rfl
  have hdif : difGo 7 (stL 7 (fewL [1, 2])) (stL 7 (fewL [2, 3])) 10 0 = 2 := by
    rw [difGo_ok 10 0 fun i hi => by
      by_cases h0 : i = 0
      · rw [h0, hd0]; exact r1
      · exact (hdi i hi h0).1, sumTo_one (j := 0) (n := 2) 10 (by decide) hc0 fun i hi h0 => (hdi i hi h0).2]
  have hk : (sd0 (fewL [2, 3]) 7).kind = 1 := rfl
  have e2 : (sd0 (fewL [2, 3]) 7).doS (fewL [1, 2]) = ⟨fewL [2, 3], 2, 12, 8, [], [], 1⟩ := by
    unfold Sd.doS Sd.stS Sd.stOk
    rw [if_pos hk, stL_good, decide_eq_true hk, decide_eq_true rfl]
    show Sd.st1 _ _ = _
    unfold Sd.st1 sd0
    dsimp only
    rw [hdif]
    show Sd.mk (fewL [2, 3]) 2 (cellsN 2) _ [] [] 1 = _
    rw [cells2]
  have e1 : (sd0 (fewL [2, 3]) 7).doE (fewL [1, 2]) = 0 := by
    unfold Sd.doE Sd.stE
    rw [if_pos hk, if_pos hk, stL_good, decide_eq_true rfl]; rfl
  refine ⟨_, e2, e1, ?_⟩
  obtain ⟨_, o1, o2, o3⟩ := two16 (seed := 8) (n := 12) (X := fewL [1, 2]) (Y := fewL [2, 3]) g12r s23 (by simp at l23; omega) hl1 hl2 (j := 0) (by decide) place8
  have hx := exch_all (M := fewL [2, 3]) s12
  have hl1 : minusL (fewL [1, 2]) (fewL [2, 3]) = [fewS 1] := hl1
  have hl2 : minusL (fewL [2, 3]) (fewL [1, 2]) = [fewS 3] := hl2
  rw [hl1, hl2] at hx
  have hd : Sd.tbD ⟨fewL [2, 3], 2, 12, 8, [], [], 1⟩ (ofL 8 12 (fewL [1, 2])) (tellS (fewL [1, 2])) = true := by
    unfold Sd.tbD
    dsimp only
    rw [o1, o2, o3, hx, decide_eq_true rfl, decide_eq_true rfl]; rfl
  have hok : Sd.tbOk ⟨fewL [2, 3], 2, 12, 8, [], [], 1⟩ 8 (ofL 8 12 (fewL [1, 2])) = true := by
    unfold Sd.tbOk
    dsimp only
    rw [ofL_len g12r, decide_eq_true rfl]; rfl
  constructor
  · unfold Sd.doE Sd.tbE
    rw [if_neg (show ¬ (2 : Int) = 1 by decide), if_pos rfl, if_pos rfl, if_pos hok, if_pos hd]
  · unfold Sd.doS Sd.tbS
    rw [if_neg (show ¬ (2 : Int) = 1 by decide), if_pos rfl, if_pos rfl, if_pos hok]
    unfold Sd.tbS1
    rw [if_pos hd]
    dsimp only
    rw [o2, o3]
end Go.Proofs.YtmefpnklgfhggaaGreatDoor

/- Recon, plainly: what ReconKnown's side goes through. -/
namespace Go.Proofs.YtmefpnklgfhggaaGreatDoor
open Go.RowKit

abbrev M18 : List Sm := fewL [2, 3]
abbrev Y18 : List Sm := fewL [1, 2]
theorem srtY : srt [fewS 1, fewS 2] := List.pairwise_cons.2 ⟨fun y hy => by simp only [List.mem_singleton] at hy; subst hy; decide +kernel, List.pairwise_singleton _ _⟩
theorem tell_noY : ¬ shaS (byL [fewS 1, fewS 2]) = s1 := fun h => absurd (congrArg Sm.l h) (by decide +kernel)
theorem tell_no : ¬ tellS Y18 = s1 := by
  have e : Y18 = [fewS 1, fewS 2] := setL_self srtY
  unfold tellS
  rw [e, setL_self srtY]
  exact tell_noY
theorem tell_no0 : ¬ tellS [] = s1 := fun h => absurd (congrArg Sm.l h) (by decide +kernel)
theorem bad21 : goodL [s2, s1] = false := by decide
theorem M18_len : M18.length = 2 := by
  have hp := setL_perm (D := [fewS 2, fewS 3]) (by simp [few23])
  have := hp.length_eq
  exact this
theorem dif7 : difGo 7 (stL 7 Y18) (stL 7 M18) 10 0 = 2 := by
  obtain ⟨hl1, hl2⟩ := less_two few12 few13 few23
  have s12 := fewL_srt [1, 2]
  have s23 := fewL_srt [2, 3]
  have hY : setL Y18 = Y18 := setL_self s12
  have hM : setL M18 = M18 := setL_self s23
  obtain ⟨a1, a2⟩ := lvl_all (X := Y18) fun z hz => by rcases (few_mem2 1 2 z).1 hz with rfl | rfl; exact lv1r; exact lv2r
  obtain ⟨b1, b2⟩ := lvl_all (X := M18) fun z hz => by rcases (few_mem2 2 3 z).1 hz with rfl | rfl; exact lv2r; exact lv3r
  obtain ⟨t1, _⟩ := two16 (seed := 7) (n := 24) (X := Y18) (Y := M18) g24 s23 (by rw [M18_len]; omega) hl1 hl2 (j := 3) (by decide) place7
  obtain ⟨r1, r2, r3⟩ := ok_two (seed := 7) (N := 24) (x := fewS 1) (y := fewS 3) g24 few13 (j := 3) (by decide) place7
  have hd0 : difD (stL 7 Y18) (stL 7 M18) 0 = twoT 7 24 (fewS 1) (fewS 3) := by
    rw [dif_lvl 7 _ _ (by decide), hY, hM, a1, b1]
    exact t1
  have hdi : ∀ i, i < 10 → ¬ i = 0 → resN 7 (difD (stL 7 Y18) (stL 7 M18) i) = 0 ∧ difC 7 (stL 7 Y18) (stL 7 M18) i = 0 := fun i hi h0 => dif_same 7 hi (by rw [hY, hM, a2 i h0, b2 i h0])
  have hc0 : difC 7 (stL 7 Y18) (stL 7 M18) 0 = 2 := by
    unfold difC
    rw [hd0, r2, r3]; rfl
  rw [difGo_ok 10 0 fun i hi => by
      by_cases h0 : i = 0
      · rw [h0, hd0]; exact r1
      · exact (hdi i hi h0).1, sumTo_one (j := 0) (n := 2) 10 (by decide) hc0 fun i hi h0 => (hdi i hi h0).2]
/-- Its states. -/
abbrev k0 : Sd := ⟨M18, 1, 0, 7, [], [], 0⟩
abbrev k1 : Sd := ⟨M18, 2, 12, 8, [], [], 1⟩
def nAt (i : Nat) : Int := min (24 * 2 ^ i) 1023
abbrev kL (i : Nat) : Sd := ⟨M18, 2, nAt i, 9 + i, [], [], 2 + i⟩
abbrev k3 : Sd := ⟨M18, 3, 0, 0, [], [], 9⟩
abbrev k4 : Sd := ⟨M18, 3, 0, 0, [], [], 10⟩
abbrev k5 : Sd := ⟨M18, 0, 0, 0, [fewS 1], [fewS 3], 11⟩
theorem k0_st8 : k0.stE 8 (stL 8 []) = 1 ∧ k0.stS 8 (stL 8 []) = k0 := by
  constructor
  · unfold Sd.stE
    rw [if_pos rfl, stL_good]; rfl
  · unfold Sd.stS Sd.stOk
    rw [stL_good]; rfl
theorem k0_st7 : k0.stE 7 (stL 7 Y18) = 0 ∧ k0.stS 7 (stL 7 Y18) = k1 := by
  constructor
  · unfold Sd.stE
    rw [if_pos rfl, stL_good]; rfl
  · unfold Sd.stS Sd.stOk
    rw [stL_good]
    show Sd.st1 _ _ = _
    unfold Sd.st1
    dsimp only
    rw [dif7]
    show Sd.mk M18 2 (cellsN 2) 8 [] [] 1 = _
    rw [cells2]
theorem k0_tb : k0.tbE 0 [] Sm.zero = 5 ∧ k0.tbS 0 [] Sm.zero = k0 := ⟨rfl, rfl⟩
theorem k0_ls : k0.lsE [] Sm.zero = 5 ∧ k0.lsS [] Sm.zero = k0 := ⟨rfl, rfl⟩
theorem k1_tb : k1.tbE 8 (ofL 8 12 Y18) s1 = 10 ∧ k1.tbS 8 (ofL 8 12 Y18) s1 = kL 0 := by
  obtain ⟨hl1, hl2⟩ := less_two few12 few13 few23
  have s12 := fewL_srt [1, 2]
  have s23 := fewL_srt [2, 3]
  obtain ⟨_, o1, o2, o3⟩ := two16 (seed := 8) (n := 12) (X := Y18) (Y := M18) g12r s23 (by rw [M18_len]; omega) hl1 hl2 (j := 0) (by decide) place8
  have hx := exch_all (M := M18) s12
  have hl1 : minusL Y18 M18 = [fewS 1] := hl1
  have hl2 : minusL M18 Y18 = [fewS 3] := hl2
  rw [hl1, hl2] at hx
  have hd : k1.tbD (ofL 8 12 Y18) s1 = false := by
    unfold Sd.tbD
    dsimp only
    rw [o2, o3, hx, decide_eq_false tell_no, Bool.and_false]
  have hok : k1.tbOk 8 (ofL 8 12 Y18) = true := by
    unfold Sd.tbOk
    dsimp only
    rw [ofL_len g12r, decide_eq_true rfl]; rfl
  constructor
  · unfold Sd.tbE
    rw [if_pos rfl, if_pos hok, hd]; rfl
  · unfold Sd.tbS
    rw [if_pos rfl, if_pos hok]
    unfold Sd.tbS1
    rw [hd]
    rfl
theorem kL0_tb : (kL 0).tbE 8 (ofL 8 12 Y18) (tellS Y18) = 1 ∧ (kL 0).tbS 8 (ofL 8 12 Y18) (tellS Y18) = kL 0 := by
  have hok : (kL 0).tbOk 8 (ofL 8 12 Y18) = false := by
    unfold Sd.tbOk
    dsimp only
    rw [ofL_len g12r]; rfl
  constructor
  · unfold Sd.tbE
    rw [if_pos rfl, hok]; rfl
  · unfold Sd.tbS
    rw [if_pos rfl, hok]; rfl
theorem nAt_good : ∀ i, i < 7 → goodN (nAt i) = true ∧ 0 ≤ nAt i ∧ nAt i ≤ 1023 := by decide
theorem nAt_next : ∀ i, i < 6 → min (2 * nAt i) 1023 = nAt (i + 1) ∧ ¬ nAt i = 1023 := by decide
theorem all_one {b : Sm} : ∀ {Q : List Sm}, Q.Nodup → (∀ z ∈ Q, z = b) → Q.length ≤ 1
  | [], _, _ => by simp
  | [_], _, _ => by simp
  | x :: y :: l, hn, h => by
    rw [List.nodup_cons] at hn
    exact absurd (show x ∈ y :: l by rw [h x (by simp), h y (by simp)]; simp) hn.1
theorem all_two {a b : Sm} : ∀ {Q : List Sm}, Q.Nodup → (∀ z ∈ Q, z = a ∨ z = b) → Q.length ≤ 2
  | [], _, _ => by simp
  | [_], _, _ => by simp
  | [_, _], _, _ => by simp
  | x :: y :: z :: l, hn, h => by
    rw [List.nodup_cons, List.nodup_cons] at hn
    exfalso
    have n1 : ¬ x = y := fun e => hn.1 (by rw [e]; simp)
    have n2 : ¬ x = z := fun e => hn.1 (by rw [e]; simp)
    have n3 : ¬ y = z := fun e => hn.2.1 (by rw [e]; simp)
    rcases h x (by simp) with e1 | e1 <;> rcases h y (by simp) with e2 | e2 <;> rcases h z (by simp) with e3 | e3
    · exact n1 (e1.trans e2.symm)
    · exact n1 (e1.trans e2.symm)
    · exact n2 (e1.trans e3.symm)
    · exact n3 (e2.trans e3.symm)
    · exact n3 (e2.trans e3.symm)
    · exact n2 (e1.trans e3.symm)
    · exact n1 (e1.trans e2.symm)
    · exact n1 (e1.trans e2.symm)
/-- Of an empty table it is not told truly. -/
theorem empty_no {n : Int} (seed : Nat) (hg : goodN n = true) : (decide (ownN seed (tzero n.toNat) M18 = 0) && decide (tellS (setL (minusL M18 (ownQ seed (tzero n.toNat) M18) ++ ownP seed (tzero n.toNat) M18)) = s1)) = false := by
  by_cases h : ownN seed (tzero n.toNat) M18 = 0
  rotate_left
  · rw [decide_eq_false h]; rfl
  have hM := fewL_srt [2, 3]
  have hr := room16 (seed := seed) (n := n) (X := []) (M := M18) hg List.Pairwise.nil hM (by simp) (by rw [M18_len]; omega) (by rw [ofL_nil hg]; exact h)
  rw [ofL_nil hg, M18_len] at hr
  obtain ⟨_, _, _, eP, eQ, h1, h2⟩ := own_ok h
  have hQs : srt (ownQ seed (tzero n.toNat) M18) := by rw [eQ]; exact resM_srt
  generalize ownQ seed (tzero n.toNat) M18 = Q at *
  generalize ownP seed (tzero n.toNat) M18 = P at *
  have hQn := srt_nodup hQs
  have hQM : ∀ z ∈ Q, z = fewS 2 ∨ z = fewS 3 := fun z hz => (few_mem2 2 3 z).1 (Classical.byContradiction fun hm => by
    have : z ∈ minusL Q M18 := minusL_mem.2 ⟨hz, hm⟩
    rw [h1] at this
    cases this)
  have hQ2 := all_two hQn hQM
  have hr : (0 : Int) - (2 : Nat) = P.length - Q.length := hr
  have hP : P = [] := List.eq_nil_of_length_eq_zero (by omega)
  have q2 : fewS 2 ∈ Q := Classical.byContradiction fun hm => by
    have := all_one (b := fewS 3) hQn fun z hz => (hQM z hz).resolve_left fun e => hm (e ▸ hz)
    omega
  have q3 : fewS 3 ∈ Q := Classical.byContradiction fun hm => by
    have := all_one (b := fewS 2) hQn fun z hz => (hQM z hz).resolve_right fun e => hm (e ▸ hz)
    omega
  have hm : minusL M18 Q = [] := List.eq_nil_iff_forall_not_mem.2 fun z hz => by
    obtain ⟨z1, z2⟩ := minusL_mem.1 hz
    rcases (few_mem2 2 3 z).1 z1 with rfl | rfl
    · exact z2 q2
    · exact z2 q3
  rw [hm, hP, List.append_nil, setL_none, decide_eq_false tell_no0, Bool.and_false]
theorem kL_step {i : Nat} (hi : i < 7) : (kL i).tbE (9 + i) (newL (nAt i)) s1 = 10 ∧ (kL i).tbS (9 + i) (newL (nAt i)) s1 = if i < 6 then kL (i + 1) else k3 := by
  obtain ⟨hg, h0, _⟩ := nAt_good i hi
  have eL : newL (nAt i) = tzero (nAt i).toNat := by unfold newL; rw [hg]; rfl
  have hd : (kL i).tbD (newL (nAt i)) s1 = false := by
    rw [eL]
    unfold Sd.tbD
    exact empty_no (9 + i) hg
  have hok : (kL i).tbOk (9 + i) (newL (nAt i)) = true := by
    rw [eL]
    unfold Sd.tbOk
    dsimp only
    rw [tzero_len, decide_eq_true (show (((nAt i).toNat : Nat) : Int) = nAt i by omega), decide_eq_true rfl]; rfl
  constructor
  · unfold Sd.tbE
    rw [if_pos rfl, if_pos hok, hd]; rfl
  · unfold Sd.tbS
    rw [if_pos rfl, if_pos hok]
    unfold Sd.tbS1
    rw [hd]
    by_cases h6 : i < 6
    · obtain ⟨e1, e2⟩ := nAt_next i h6
      rw [if_neg (by decide), if_neg e2, if_pos h6]
      dsimp only
      rw [e1, show (9 + i + 1) % 18446744073709551616 = 9 + (i + 1) by omega, show 2 + i + 1 = 2 + (i + 1) by omega]
    · have hi6 : i = 6 := by omega
      subst hi6
      rw [if_neg (by decide), if_pos (by decide), if_neg (by decide)]
theorem k3_ls : k3.lsE Y18 s1 = 11 ∧ k3.lsS Y18 s1 = k4 := by
  have l12 := fewL_len [1, 2]
  have hg : goodL Y18 = true := by rw [goodL_srt (fewL_srt [1, 2])]; exact decide_eq_true (by simp at l12; omega)
  constructor
  · unfold Sd.lsE
    rw [if_pos rfl, if_pos hg, if_neg tell_no]
  · unfold Sd.lsS
    rw [if_pos rfl, if_pos hg, if_neg tell_no]
theorem k4_bad : k4.lsE [s2, s1] s1 = 1 ∧ k4.lsS [s2, s1] s1 = k4 := by
  constructor
  · unfold Sd.lsE
    rw [if_pos rfl, bad21]; rfl
  · unfold Sd.lsS
    rw [if_pos rfl, bad21]; rfl
theorem k4_ls : k4.lsE Y18 (tellS Y18) = 0 ∧ k4.lsS Y18 (tellS Y18) = k5 := by
  have l12 := fewL_len [1, 2]
  have hg : goodL Y18 = true := by rw [goodL_srt (fewL_srt [1, 2])]; exact decide_eq_true (by simp at l12; omega)
  obtain ⟨hl1, hl2⟩ := less_two few12 few13 few23
  have hl1 : minusL Y18 M18 = [fewS 1] := hl1
  have hl2 : minusL M18 Y18 = [fewS 3] := hl2
  constructor
  · unfold Sd.lsE
    rw [if_pos rfl, if_pos hg, if_pos rfl]
  · unfold Sd.lsS
    rw [if_pos rfl, if_pos hg, if_pos rfl]
    dsimp only
    rw [hl1, hl2]
    rfl
end Go.Proofs.YtmefpnklgfhggaaGreatDoor

/- Layer 18: awake, ReconSelf. -/
namespace Go.Proofs.YtmefpnklgfhggaaGreatDoor
open Go.RowKit

theorem run_eql_ptrN {P : Program} (w : World) (t d : TypeId) (A : Addr) (hu : P.underlying t = some (.pointer d)) (n : Nat) : (Op.equalIn (n + 1) t (.pointer (some A)) (.pointer none)).run P w = .ok false w := by
  unfold Op.equalIn
  rw [Sem.run_bind, run_underlying hu]
  rfl
theorem run_eql_ptr {P : Program} (w : World) (t d : TypeId) (A : Addr) (hu : P.underlying t = some (.pointer d)) : (Op.equal t (.pointer (some A)) (.pointer none)).run P w = .ok false w := run_eql_ptrN w t d A hu 9999
theorem cEqlPtrNil {P : Program} {w0 : World} {Γ : Ctx} {o : Oper} {t t2 d : TypeId} {x : Operand} {A : Addr} (ho : o.op = .binOp .eql t x (.const (.pointer none)) t2) (hx : OpT Γ x (Ty.ex (.pointer (some A)))) (hu : P.underlying t = some (.pointer d)) : OpOk P w0 Γ o (Ty.ex (.bool false)) :=
  .val fun a w _ hs => by
    obtain ⟨v, h1, h2⟩ := hs x _ (by simp [ho, Op.operands]) hx
    have h2 : v = .pointer (some A) := h2
    have hc : a.eval (.const (.pointer none)) = .pointer none := rfl
    have he := run_eql_ptr (P := P) w t d A hu
    refine ⟨_, rfl, ?_⟩
    unfold execOp
    simp [ho, h1, h2, hc, eqGuard, binOp, he]
/-- One answer, as an operation of a list. -/
theorem tlDoes {ops : Array Oper} {Q : Exit → Act → World → Prop} {N : Nat} {Γ Δ : Ctx} {a : Act} {w : World} {o : Oper} {rest : List Oper} {d x y g : Nat} {ats : Array TypeId} {τ : Ty} {m t u : Value} {s : Sd} {M Y : List Sm} (hF : Fr N Γ a w) (hg : o.guard = none) (hd : o.dst = some d) (hdN : d < N) (ho : o.op = .call { callee := .value (.func 33), args := #[.tmp x, .tmp y], argTypes := ats }) (hx : look Γ x = some (Ty.ex (.pointer (some ⟨g, 0, none⟩)))) (hy : look Γ y = some τ) (hτ : ∀ w v, τ.p w v → (Ty.sums 28 Y).p w v) (hS : SideM w g m t u s) (hT : TabOk w) (hI : s.Inv M Y) (hY : srt Y) (hYl : Y.length ≤ 512) (hMl : M.length ≤ 512) (hk : ¬ s.kind = 0) (hΔ : Fr N Δ a w) (hfree : Δ.free SideT = true)
    (hq : ∀ a' w' t' u', Fr N ((d, Ty.ex (.int .i64 (s.doE Y))) :: Δ) a' w' → SideM w' g m t' u' (s.doS Y) → Keeps [g] w w' → wpList Tryz.prog ops Q rest a' w') : wpList Tryz.prog ops Q (o :: rest) a w := by
  obtain ⟨v, hv, hF2⟩ := hF.open hy
  have hm := hI.mine
  have hr := hI.rounds
  have h0 := hI.n0
  have h1 := hI.n1
  refine tlCall (R := fun r w' => r = .int .i64 (s.doE Y) ∧ (∃ t' u', SideM w' g m t' u' (s.doS Y)) ∧ Keeps [g] w w') (args := #[.pointer (some ⟨g, 0, none⟩), v]) hg hd ho ?_ (fun args w => by kernel_rfl) ((does_acts hS hT Y (hτ _ _ hv) (by rw [goodL_srt hY, decide_eq_true hYl]) (hI.wants hk) (by rw [hm]; omega) (by omega) hI.seed (by omega) h0 (by omega)).mono fun e w' ⟨k1, k2, k3⟩ => ⟨_, k1, rfl, k2, k3⟩) ?_
  · simp only [List.map_toArray, List.map_cons, List.map_nil, hF.getEx hx, hF2.getEx (look_same _ _ _)]
  rintro r w' ⟨rfl, ⟨t', u', hS'⟩, hk'⟩
  exact hq _ _ _ _ ((fr_side hΔ hS hk' hfree).put hdN (Below.refl _ _) rfl) hS' hk'
theorem sd0_wants (M : List Sm) (seed : Nat) : ¬ (sd0 M seed).kind = 0 := by show ¬ (1 : Int) = 0; decide
theorem enDone : Enters Tryz.prog 20 := fun args w => by kernel_rfl
theorem enRounds : Enters Tryz.prog 21 := fun args w => by kernel_rfl
theorem enTheirs : Enters Tryz.prog 23 := fun args w => by kernel_rfl
theorem enOurs : Enters Tryz.prog 32 := fun args w => by kernel_rfl
set_option maxRecDepth 100000 in
set_option maxHeartbeats 4000000 in
theorem awake18_ret (w : World) (hT : TabOk w) : Ret Tryz.prog 8 #[] w (Ty.ex (.bool true)) := by
  have f23 := few18_ty [2, 3] (Ty.sl 3 2 [ivz 2, ivz 3]) (reads_sl _ _ _) (by simp)
  have f12 := few18_ty [1, 2] (Ty.sl 3 2 [ivz 1, ivz 2]) (reads_sl _ _ _) (by simp)
  have f1 := few18_ty [1] (Ty.sl 3 1 [ivz 1]) (reads_sl _ _ _) (by simp)
  have f3 := few18_ty [3] (Ty.sl 3 1 [ivz 3]) (reads_sl _ _ _) (by simp)
  rw [fewL_one] at f1 f3
  have l12 := fewL_len [1, 2]
  have l23 := fewL_len [2, 3]
  have s12 := fewL_srt [1, 2]
  have s23 := fewL_srt [2, 3]
  obtain ⟨s1, e1, d1, d2, e2⟩ := three18
  have i0 := inv_new (fewL [2, 3]) (fewL [1, 2]) 7 (by decide)
  have l12 : (fewL [1, 2]).length ≤ 512 := by simp at l12; omega
  have l23 : (fewL [2, 3]).length ≤ 512 := by simp at l23; omega
  have i1 := (inv_step i0 s12 l12 l23 (by decide)).1
  rw [e1] at i1
  have k1 : ¬ s1.kind = 0 := fun h => by
    have e := congrArg Sd.rounds e2
    have hk1 : ¬ s1.kind = 1 := by omega
    unfold Sd.doS at e
    rw [if_neg hk1, if_neg (by omega)] at e
    unfold Sd.lsS at e
    rw [if_neg (by omega)] at e
    have e' := congrArg Sd.rounds e1
    unfold Sd.doS Sd.stS Sd.stOk at e'
    rw [if_pos (show (sd0 (fewL [2, 3]) 7).kind = 1 from rfl), stL_good, decide_eq_true (show (sd0 (fewL [2, 3]) 7).kind = 1 from rfl), decide_eq_true rfl] at e'
    have e'' : 1 = s1.rounds := e'
    have e3 : s1.rounds = 2 := e
    omega
  have hNw := new_any (fewL [2, 3]) 7 (by omega) (by rw [goodL_srt s23, decide_eq_true l23])
  generalize fewL [1, 2] = Y at *
  generalize fewL [2, 3] = M at *
  refine enter_ty 54 [] Tryz.func8 rfl (by kernel_rfl) trivial fun a hF => ?_
  have hB := Below.refl w.heap.size w
  repeat with_reducible refine wp_seq ?_
  refine' reg_all hF ?_ mixed (by kernel_rfl) ?_
  rotate_left
  · repeat (first | exact Line.nil | ((refine' Line.cons rfl (.run rfl rfl ?_) ?_); (any_goals exact cAssign rfl rfl); rotate_left))
  intro a w1 hF hb hN
  have hBs := hB.size
  replace hB := hB.trans (hb.mono hB.size)
  dsimp only [ext, Option.getD] at hF
  repeat with_reducible first | refine wp_seq ?_ | refine nThen ?_
  refine' reg_all hF ?_ mixed (by kernel_rfl) ?_
  rotate_left
  · repeat (first | exact Line.nil | ((refine' Line.cons rfl (.run rfl rfl ?_) ?_); (any_goals (first | exact cMove rfl rfl | exact cAssign rfl rfl | exact cBuildV (vs := [ivz 2, ivz 3]) rfl (parts2v rfl rfl rfl) Tryz.underlying33 infoInt rfl (by simp [Value.cells, ivz]) (by decide) (by simp [maxLen]) | exact cCallS1 rfl (.t rfl) f23 | exact cCallR2 rfl (Has.c (.t rfl) seg_sl) (.t rfl) hNw (newSd_olds _ _) | exact cExtract rfl rfl rfl)); rotate_left))
  intro a w2 hF hb hN
  have hBs := hB.size
  replace hB := hB.trans (hb.mono hB.size)
  dsimp only [ext, Option.getD] at hF
  repeat with_reducible first | refine wp_seq ?_ | refine nThen ?_
  obtain ⟨z, ⟨g, m, rfl, hgw, hS⟩, hF⟩ := hF.open (s := 1) rfl
  have hgw : w.heap.size ≤ g := by
    have : w1.heap.size ≤ g := hgw
    omega
  refine' reg_all hF ?_ mixed (by kernel_rfl) ?_
  rotate_left
  · repeat (first | exact Line.nil | ((first | refine' Line.cons rfl (.run rfl rfl ?_) ?_ | refine' Line.cons rfl (.yes rfl rfl rfl rfl ?_) ?_); (any_goals (first | exact cMove rfl rfl | exact OpOk.b (c := false) (cNeq rfl rfl rfl) rfl | exact cEqlPtrNil rfl rfl Tryz.underlying23 | exact cPickF rfl rfl rfl)); rotate_left))
  intro a w3 hF hb hN
  have hBs := hB.size
  replace hB := hB.trans (hb.mono hB.size)
  dsimp only [ext, Option.getD] at hF
  repeat with_reducible refine nThen ?_
  replace hS := hS.below hb
  refine cond_f hF rfl ?_
  repeat with_reducible first | refine wp_seq ?_ | refine nThen ?_ | refine wp_skip ?_
  refine wp_region_lit ?_
  refine' tlOp hF rfl rfl rfl ?_ ?_
  rotate_left
  · exact cMove rfl rfl
  intro a w4 hF hb
  have hBs := hB.size
  replace hB := hB.trans (hb.mono hB.size)
  try (refine wpList_nil ?_)
  replace hS := hS.below hb
  refine' tlOp hF rfl rfl rfl ?_ ?_
  rotate_left
  · exact cBuildV (vs := [ivz 1, ivz 2]) rfl (parts2v rfl rfl rfl) Tryz.underlying33 infoInt rfl (by simp [Value.cells, ivz]) (by decide) (by simp [maxLen])
  intro a w5 hF hb
  have hBs := hB.size
  replace hB := hB.trans (hb.mono hB.size)
  try (refine wpList_nil ?_)
  replace hS := hS.below hb
  refine' tlOp hF rfl rfl rfl ?_ ?_
  rotate_left
  · exact cCallS1 rfl (.t rfl) f12
  intro a w6 hF hb
  have hBs := hB.size
  replace hB := hB.trans (hb.mono hB.size)
  try (refine wpList_nil ?_)
  replace hS := hS.below hb
  refine tlDoes hF rfl rfl (by decide) rfl rfl rfl seg_sl hS (hT.below hB) i0 s12 l12 l23 (sd0_wants _ _) (hF.keep [1]) rfl fun a w7 t1 o1 hF hS1 hk7 => ?_
  rw [e1] at hS1
  rw [d1] at hF
  have hS := hS1
  clear hS1
  replace hB := below_own hB hk7 (by intro y hy; simp only [List.mem_singleton] at hy; omega)
  refine' tlOp hF rfl rfl rfl ?_ ?_
  rotate_left
  · exact cMove rfl rfl
  intro a w8 hF hb
  have hBs := hB.size
  replace hB := hB.trans (hb.mono hB.size)
  try (refine wpList_nil ?_)
  replace hS := hS.below hb
  refine' tlOp hF rfl rfl rfl ?_ ?_
  rotate_left
  · exact cBuildV (vs := [ivz 1, ivz 2]) rfl (parts2v rfl rfl rfl) Tryz.underlying33 infoInt rfl (by simp [Value.cells, ivz]) (by decide) (by simp [maxLen])
  intro a w9 hF hb
  have hBs := hB.size
  replace hB := hB.trans (hb.mono hB.size)
  try (refine wpList_nil ?_)
  replace hS := hS.below hb
  refine' tlOp hF rfl rfl rfl ?_ ?_
  rotate_left
  · exact cCallS1 rfl (.t rfl) f12
  intro a w10 hF hb
  have hBs := hB.size
  replace hB := hB.trans (hb.mono hB.size)
  try (refine wpList_nil ?_)
  replace hS := hS.below hb
  refine tlDoes hF rfl rfl (by decide) rfl rfl rfl seg_sl hS (hT.below hB) i1 s12 l12 l23 k1 (hF.keep [1, 20]) rfl fun a w11 t2 o2 hF hS2 hk11 => ?_
  rw [e2] at hS2
  rw [d2] at hF
  have hS := hS2
  clear hS2
  replace hB := below_own hB hk11 (by intro y hy; simp only [List.mem_singleton] at hy; omega)
  refine' tlOp hF rfl rfl rfl ?_ ?_
  rotate_left
  · exact cAssign rfl rfl
  intro a w12 hF hb
  have hBs := hB.size
  replace hB := hB.trans (hb.mono hB.size)
  try (refine wpList_nil ?_)
  replace hS := hS.below hb
  refine' tlOp hF rfl rfl rfl ?_ ?_
  rotate_left
  · exact cAssign rfl rfl
  intro a w13 hF hb
  have hBs := hB.size
  replace hB := hB.trans (hb.mono hB.size)
  try (refine wpList_nil ?_)
  repeat with_reducible first | refine wp_seq ?_ | refine nThen ?_
  replace hS := hS.below hb
  have hlT : (Sd.mk M 0 0 0 [fewS 1] [fewS 3] 2).theirs.length ≤ 1000000 := by simp
  have hlO : (Sd.mk M 0 0 0 [fewS 1] [fewS 3] 2).ours.length ≤ 1000000 := by simp
  have q1 := same_ty [fewS 1] [fewS 1] (by simp) (by simp)
  have q3 := same_ty [fewS 3] [fewS 3] (by simp) (by simp)
  rw [same_one] at q1 q3
  refine' reg_all hF ?_ mixed (by kernel_rfl) ?_
  rotate_left
  · repeat (first | exact Line.nil | ((first | refine' Line.cons rfl (.run rfl rfl ?_) ?_ | refine' Line.cons rfl (.yes rfl rfl rfl rfl ?_) ?_); (any_goals (first | exact cMove rfl rfl | exact cAssign rfl rfl | exact OpOk.b (c := true) (cEql rfl rfl rfl) rfl | exact cCallX1 rfl rfl enDone (fun W hb => done_ret (hS.below hb)) | exact cCallX1 rfl rfl enRounds (fun W hb => rounds_ret (hS.below hb)) | exact cCallX1 rfl rfl enTheirs (fun W hb => theirs_ret (hS.below hb) hlT) | exact cCallX1 rfl rfl enOurs (fun W hb => ours_ret (hS.below hb) hlO) | exact cBuildV (vs := [ivz 1]) rfl (parts1v rfl rfl) Tryz.underlying33 infoInt rfl (by simp [Value.cells, ivz]) (by decide) (by simp [maxLen]) | exact cBuildV (vs := [ivz 3]) rfl (parts1v rfl rfl) Tryz.underlying33 infoInt rfl (by simp [Value.cells, ivz]) (by decide) (by simp [maxLen]) | exact cCallS1 rfl (.t rfl) f1 | exact cCallS1 rfl (.t rfl) f3 | exact cCallH2 rfl (.t rfl) (Has.c (.t rfl) seg_sl) q1 | exact cCallH2 rfl (.t rfl) (Has.c (.t rfl) seg_sl) q3 | exact cPickT rfl rfl rfl)); rotate_left))
  intro a w14 hF hb hN
  have hBs := hB.size
  replace hB := hB.trans (hb.mono hB.size)
  dsimp only [ext, Option.getD] at hF
  repeat with_reducible first | refine nThen ?_ | refine wp_ret ?_
  refine ret1 hF rfl rfl fun z hz => ?_
  exact ⟨z, rfl, hz, hB⟩
theorem enAwake18 : Enters Tryz.prog 8 := fun args w => by kernel_rfl
end Go.Proofs.YtmefpnklgfhggaaGreatDoor

/- Layer 18: ReconKnown. -/
namespace Go.Proofs.YtmefpnklgfhggaaGreatDoor
open Go.RowKit

theorem nil_sumsK : ∀ (w : World) (v : Value), (Ty.ex nilS).p w v → (Ty.sums 28 []).p w v := fun w v h => by
  have h : v = nilS := h
  rw [h]
  exact sums_nil w
theorem build_s0 (w : World) : (Instr.build 28 #[]).run Tryz.prog w = .ok (.agg (u8s Sm.zero.l)) w := by kernel_rfl
theorem tab0_of {w : World} {v : Value} (h : (Ty.ex (.agg #[.int .u64 0, nilS])).p w v) : (Ty.tab 69 0 []).p w v := by
  have h : v = .agg #[.int .u64 0, nilS] := h
  rw [h]
  exact tab0_nil w
theorem buildAsk01 (k n : Int) (w : World) : (Instr.build AskT #[(0, .int .i64 k), (1, .int .i64 n)]).run Tryz.prog w = .ok (.agg #[.int .i64 k, .int .i64 n, .int .u64 0]) w := by
  have hz : (zeroValue AskT).run Tryz.prog w = .ok (.agg #[.int .i64 0, .int .i64 0, .int .u64 0]) w := by kernel_rfl
  have hu := run_underlying Tryz.underlying35 w
  have h2 := Tryz.sizeOf3 w
  simp only [Instr.build, Sem.run_bind, hz, Result.andThen_ok, hu]
  simp [h2, Instr.fill, Value.cells]
theorem fieldsAsk : ∃ f0 f1 f2 : Field, (Tryz.prog.fieldsOf AskT).toList = [f0, f1, f2] ∧ f0.name ≠ "_" ∧ f1.name ≠ "_" ∧ f2.name ≠ "_" ∧ f0.type = 3 ∧ f0.offset = 0 ∧ f1.type = 3 ∧ f1.offset = 1 ∧ f2.type = 31 ∧ f2.offset = 2 := by
  have hu := Tryz.underlying35
  have h : ∀ fs, Tryz.prog.underlying AskT = some (.struct fs) → Tryz.prog.fieldsOf AskT = fs := fun fs h => by unfold Program.fieldsOf; rw [h]
  have h2 := h _ hu
  rw [h2]
  exact ⟨_, _, _, rfl, by decide, by decide, by decide, rfl, rfl, rfl, rfl, rfl, rfl⟩
theorem holdsAsk : Tryz.prog.underlying AskT = some (.struct (Tryz.prog.fieldsOf AskT)) ∧ Tryz.prog.stoodInHeld AskT = false := ⟨by kernel_rfl, by kernel_rfl⟩
theorem guardAsk : Tryz.prog.eqGuardType Tryz.prog.depth AskT = false := by kernel_rfl
theorem eqAskD (d : Nat) (a b c : Int) (w : World) : (Op.equalIn (d + 3) AskT (.agg #[.int .i64 a, .int .i64 b, .int .u64 c]) (.agg #[.int .i64 a, .int .i64 b, .int .u64 c])).run Tryz.prog w = .ok true w := by
  obtain ⟨f0, f1, f2, hf, n0, n1, n2, t0, o0, t1, o1, t2, o2⟩ := fieldsAsk
  have p0 : (part 3 #[.int .i64 a, .int .i64 b, .int .u64 c] 0).run Tryz.prog w = .ok (.int .i64 a) w := by
    unfold part
    rw [Sem.run_bind, Tryz.isAgg3 w]
    rfl
  have p1 : (part 3 #[.int .i64 a, .int .i64 b, .int .u64 c] 1).run Tryz.prog w = .ok (.int .i64 b) w := by
    unfold part
    rw [Sem.run_bind, Tryz.isAgg3 w]
    rfl
  have p2 : (part 31 #[.int .i64 a, .int .i64 b, .int .u64 c] 2).run Tryz.prog w = .ok (.int .u64 c) w := by
    unfold part
    rw [Sem.run_bind, Tryz.isAgg31 w]
    rfl
  have i0 := run_equalIn_int w (d + 1) 3 .i64 .i64 a a Tryz.underlying3
  have i1 := run_equalIn_int w (d + 1) 3 .i64 .i64 b b Tryz.underlying3
  have i2 := run_equalIn_int w (d + 1) 31 .u64 .u64 c c Tryz.underlying31
  rw [run_equalIn_struct w (d + 2) _ _ _ holdsAsk.1 holdsAsk.2, hf]
  simp only [Op.eqFields, n0, n1, n2, ne_eq, not_false_eq_true, if_true, Sem.run_bind, t0, o0, t1, o1, t2, o2, p0, Result.andThen_ok, i0]
  simp [p1, p2, i1, i2]
theorem eqAsk (a b c : Int) (w : World) : (binOp .eql AskT (.agg #[.int .i64 a, .int .i64 b, .int .u64 c]) (.agg #[.int .i64 a, .int .i64 b, .int .u64 c])).run Tryz.prog w = .ok (.bool true) w := by rw [run_eql_struct, eqAskD 9997]; rfl
theorem enAsk : Enters Tryz.prog 11 := fun args w => by kernel_rfl
section
variable {ops : Array Oper} {Q : Exit → Act → World → Prop} {N : Nat} {Γ Δ : Ctx} {a : Act} {w : World} {op : Oper} {rest : List Oper} {d x y z g : Nat} {yo : Operand} {ats : Array TypeId} {τ : Ty} {m t u v : Value} {s s' : Sd} {sd : Nat} {L : List Cl} {A : List (List Cl)} {X : List Sm} {all : Sm} {er : Int}
theorem tlTable (hF : Fr N Γ a w) (hg : op.guard = none) (hd : op.dst = some d) (hdN : d < N) (ho : op.op = .call { callee := .value (.func 12), args := #[.tmp x, .tmp y, .tmp z], argTypes := ats }) (hx : look Γ x = some (Ty.ex (.pointer (some ⟨g, 0, none⟩)))) (hy : look Γ y = some τ) (hτ : ∀ w v, τ.p w v → (Ty.tab 69 sd L).p w v) (hz : look Γ z = some (Ty.ex (.agg (u8s all.l)))) (hS : SideM w g m t u s) (hE : s.tbE sd L all = er) (hS' : s.tbS sd L all = s') (hM : s.mine.length ≤ 100000) (hsd : sd < 18446744073709551616) (hr : s.rounds ≤ 1000000) (hn0 : 0 ≤ s.n) (hn1 : s.n ≤ 1000000) (hΔ : Fr N Δ a w) (hfree : Δ.free SideT = true)
    (hq : ∀ a' w' t' u', Fr N ((d, Ty.ex (.int .i64 er)) :: Δ) a' w' → SideM w' g m t' u' s' → Keeps [g] w w' → wpList Tryz.prog ops Q rest a' w') : wpList Tryz.prog ops Q (op :: rest) a w := by
  obtain ⟨v, hv, hF2⟩ := hF.open hy
  refine tlCall (R := fun r w' => r = .int .i64 er ∧ (∃ t' u', SideM w' g m t' u' s') ∧ Keeps [g] w w') (args := #[.pointer (some ⟨g, 0, none⟩), v, .agg (u8s all.l)]) hg hd ho ?_ (fun args w => by kernel_rfl) ((table_acts hS sd L all (hτ _ _ hv) rfl hM hsd hr hn0 hn1).mono fun e w' ⟨k1, k2, k3⟩ => ⟨_, k1, by rw [hE], by rw [← hS']; exact k2, k3⟩) ?_
  · simp only [List.map_toArray, List.map_cons, List.map_nil, hF.getEx hx, hF2.getEx (look_same _ _ _), hF.getEx hz]
  rintro r w' ⟨rfl, ⟨t', u', hS2⟩, hk'⟩
  exact hq _ _ _ _ ((fr_side hΔ hS hk' hfree).put hdN (Below.refl _ _) rfl) hS2 hk'
theorem tlList (hF : Fr N Γ a w) (hg : op.guard = none) (hd : op.dst = some d) (hdN : d < N) (ho : op.op = .call { callee := .value (.func 13), args := #[.tmp x, yo, .tmp z], argTypes := ats }) (hx : look Γ x = some (Ty.ex (.pointer (some ⟨g, 0, none⟩)))) (hy : a.eval yo = v) (hv : (Ty.sums 28 X).p w v) (hz : look Γ z = some (Ty.ex (.agg (u8s all.l)))) (hS : SideM w g m t u s) (hE : s.lsE X all = er) (hS' : s.lsS X all = s') (hM : s.mine.length ≤ 100000) (hX : X.length ≤ 100000) (hr : s.rounds ≤ 1000000) (hΔ : Fr N Δ a w) (hfree : Δ.free SideT = true)
    (hq : ∀ a' w' t' u', Fr N ((d, Ty.ex (.int .i64 er)) :: Δ) a' w' → SideM w' g m t' u' s' → Keeps [g] w w' → wpList Tryz.prog ops Q rest a' w') : wpList Tryz.prog ops Q (op :: rest) a w := by
  refine tlCall (R := fun r w' => r = .int .i64 er ∧ (∃ t' u', SideM w' g m t' u' s') ∧ Keeps [g] w w') (args := #[.pointer (some ⟨g, 0, none⟩), v, .agg (u8s all.l)]) hg hd ho ?_ (fun args w => by kernel_rfl) ((list_acts hS X all hv rfl hM hX hr).mono fun e w' ⟨k1, k2, k3⟩ => ⟨_, k1, by rw [hE], by rw [← hS']; exact k2, k3⟩) ?_
  · simp only [List.map_toArray, List.map_cons, List.map_nil, hF.getEx hx, hy, hF.getEx hz]
  rintro r w' ⟨rfl, ⟨t', u', hS2⟩, hk'⟩
  exact hq _ _ _ _ ((fr_side hΔ hS hk' hfree).put hdN (Below.refl _ _) rfl) hS2 hk'
theorem tlStrata (hF : Fr N Γ a w) (hg : op.guard = none) (hd : op.dst = some d) (hdN : d < N) (ho : op.op = .call { callee := .value (.func 14), args := #[.tmp x, .tmp y], argTypes := ats }) (hx : look Γ x = some (Ty.ex (.pointer (some ⟨g, 0, none⟩)))) (hy : look Γ y = some (Ty.stra 40 69 sd A)) (hS : SideM w g m t u s) (hT : TabOk w) (hE : s.stE sd A = er) (hS' : s.stS sd A = s') (hM : s.mine.length ≤ 100000) (hA : A.length ≤ 1000000) (hsd : s.seed < 18446744073709551616) (hr : s.rounds ≤ 1000000) (hΔ : Fr N Δ a w) (hfree : Δ.free SideT = true)
    (hq : ∀ a' w' t' u', Fr N ((d, Ty.ex (.int .i64 er)) :: Δ) a' w' → SideM w' g m t' u' s' → Keeps [g] w w' → wpList Tryz.prog ops Q rest a' w') : wpList Tryz.prog ops Q (op :: rest) a w := by
  obtain ⟨v, hv, hF2⟩ := hF.open hy
  refine tlCall (R := fun r w' => r = .int .i64 er ∧ SideM w' g m t u s' ∧ Keeps [g] w w') (args := #[.pointer (some ⟨g, 0, none⟩), v]) hg hd ho ?_ (fun args w => by kernel_rfl) ((strata_acts hS hT sd A hv (by omega) hA hsd hr).mono fun e w' ⟨k1, k2, k3⟩ => ⟨_, k1, by rw [hE], by rw [← hS']; exact k2, k3⟩) ?_
  · simp only [List.map_toArray, List.map_cons, List.map_nil, hF.getEx hx, hF2.getEx (look_same _ _ _)]
  rintro r w' ⟨rfl, hS2, hk'⟩
  exact hq _ _ _ _ ((fr_side hΔ hS hk' hfree).put hdN (Below.refl _ _) rfl) hS2 hk'
end
section
variable {ops : Array Oper} {Q : Exit → Act → World → Prop} {N : Nat} {Γ : Ctx} {a : Act} {w : World} {o1 o2 : Oper} {rest : List Oper} {p q : Nat} {A B C : Value}
/-- A variable made, and what is wanted stored there. -/
theorem tlNewAsk (hF : Fr N Γ a w) (h1 : o1.op = .alloc AskT) (hg1 : o1.guard = none) (hd1 : o1.dst = some p) (hp : p < N) (hpq : Nat.beq p q = false) (h2 : o2.op = .store AskT (.tmp p) (.tmp q)) (hg2 : o2.guard = none) (hd2 : o2.dst = none) (hq : look Γ q = some (Ty.ex (.agg #[A, B, C]))) (hone : (Value.agg #[A, B, C]).cells.all (·.oneCell') = true)
    (hk : ∀ a' w', Fr N ((p, Ty.at_ AskT [A, B, C]) :: Γ) a' w' → Below w.heap.size w w' → wpList Tryz.prog ops Q rest a' w') : wpList Tryz.prog ops Q (o1 :: o2 :: rest) a w := by
  refine wpList_plain hg1 fun K hK => ?_
  unfold Oper.wp execOp
  simp only [h1, Sem.run_bind, run_alloc_i infoAsk, Result.andThen_ok, Sem.run_pure]
  refine hK _ _ ?_
  rw [hd1]
  have hb1 : Below w.heap.size w (w.alloc (.cells #[.int .i64 0, .int .i64 0, .int .u64 0] AskT)) := ((Keeps.refl [] w).alloc _).below
  have hF1 : Fr N ((p, Ty.ex (.pointer (some ⟨w.heap.size, 0, none⟩))) :: Γ) (a.put (some p) (.pointer (some ⟨w.heap.size, 0, none⟩))) (w.alloc (.cells #[.int .i64 0, .int .i64 0, .int .u64 0] AskT)) := hF.put hp hb1 rfl
  have hv3 := hF1.getEx (s := q) (v := .agg #[A, B, C]) (by rw [look]; simp only [hpq, cond_false]; exact hq)
  refine tlStoreV (Δ := []) hF1 hg2 hd2 h2 (look_same _ _ _) hv3 (Blk.new w _ _) rfl sizeAsk hone (hF1.keep []) rfl ?_
  intro w' _ hb' hkx
  have hB := below_own hb1 hkx (by intro y hy; simp only [List.mem_singleton] at hy; omega)
  exact hk _ _ (hF.put hp hB ⟨w.heap.size, 0, _, (0, 0), rfl, hb', fun j u h => by simpa [Value.cells] using h⟩) hB
end
/-- All that it goes through. -/
theorem known_states : ∃ M Y : List Sm, M = fewL [2, 3] ∧ Y = fewL [1, 2] ∧
    ((Sd.mk M 1 0 7 [] [] 0).tbE 0 [] Sm.zero = 5 ∧ (Sd.mk M 1 0 7 [] [] 0).tbS 0 [] Sm.zero = Sd.mk M 1 0 7 [] [] 0) ∧
    ((Sd.mk M 1 0 7 [] [] 0).lsE [] Sm.zero = 5 ∧ (Sd.mk M 1 0 7 [] [] 0).lsS [] Sm.zero = Sd.mk M 1 0 7 [] [] 0) ∧
    ((Sd.mk M 1 0 7 [] [] 0).stE 8 (stL 8 []) = 1 ∧ (Sd.mk M 1 0 7 [] [] 0).stS 8 (stL 8 []) = Sd.mk M 1 0 7 [] [] 0) ∧
    ((Sd.mk M 1 0 7 [] [] 0).stE 7 (stL 7 Y) = 0 ∧ (Sd.mk M 1 0 7 [] [] 0).stS 7 (stL 7 Y) = Sd.mk M 2 12 8 [] [] 1) ∧
    ((Sd.mk M 2 12 8 [] [] 1).tbE 8 (ofL 8 12 Y) s1 = 10 ∧ (Sd.mk M 2 12 8 [] [] 1).tbS 8 (ofL 8 12 Y) s1 = Sd.mk M 2 24 9 [] [] 2) ∧
    ((Sd.mk M 2 24 9 [] [] 2).tbE 8 (ofL 8 12 Y) (tellS Y) = 1 ∧ (Sd.mk M 2 24 9 [] [] 2).tbS 8 (ofL 8 12 Y) (tellS Y) = Sd.mk M 2 24 9 [] [] 2) ∧
    (∀ i, i < 7 → (Sd.mk M 2 (nAt i) (9 + i) [] [] (2 + i)).tbE (9 + i) (newL (nAt i)) s1 = 10 ∧ (Sd.mk M 2 (nAt i) (9 + i) [] [] (2 + i)).tbS (9 + i) (newL (nAt i)) s1 = if i < 6 then Sd.mk M 2 (nAt (i + 1)) (9 + (i + 1)) [] [] (2 + (i + 1)) else Sd.mk M 3 0 0 [] [] 9) ∧
    ((Sd.mk M 3 0 0 [] [] 9).lsE Y s1 = 11 ∧ (Sd.mk M 3 0 0 [] [] 9).lsS Y s1 = Sd.mk M 3 0 0 [] [] 10) ∧
    ((Sd.mk M 3 0 0 [] [] 10).lsE [s2, s1] s1 = 1 ∧ (Sd.mk M 3 0 0 [] [] 10).lsS [s2, s1] s1 = Sd.mk M 3 0 0 [] [] 10) ∧
    ((Sd.mk M 3 0 0 [] [] 10).lsE Y (tellS Y) = 0 ∧ (Sd.mk M 3 0 0 [] [] 10).lsS Y (tellS Y) = Sd.mk M 0 0 0 [fewS 1] [fewS 3] 11) :=
  ⟨M18, Y18, rfl, rfl, k0_tb, k0_ls, k0_st8, k0_st7, k1_tb, kL0_tb, fun _ hi => kL_step hi, k3_ls, k4_bad, k4_ls⟩
set_option maxRecDepth 100000 in
set_option maxHeartbeats 40000000 in
theorem lawReconKnown_any {W : World} (hT : TabOk W) : Calls Tryz.prog 3 #[] W fun e w' => e = .returned (.bool true) ∧ Below W.heap.size W w' := by
  have f23 := few18_ty [2, 3] (Ty.sl 3 2 [ivz 2, ivz 3]) (reads_sl _ _ _) (by simp)
  have f12 := few18_ty [1, 2] (Ty.sl 3 2 [ivz 1, ivz 2]) (reads_sl _ _ _) (by simp)
  have f1 := few18_ty [1] (Ty.sl 3 1 [ivz 1]) (reads_sl _ _ _) (by simp)
  rw [fewL_one] at f1
  have lY := fewL_len [1, 2]
  have lM := fewL_len [2, 3]
  have sM := fewL_srt [2, 3]
  obtain ⟨M, Y, eM, eY, c0, c1, c2, c3, c4, c5, ckL, c6, c7, c8⟩ := known_states
  rw [← eM] at f23 lM sM
  rw [← eY] at f12 lY
  clear eM eY
  have hbd : M.length ≤ 100000 := by simp at lM; omega
  have hbY : Y.length ≤ 100000 := by simp at lY; omega
  have hNw := new_any M 7 (by omega) (by rw [goodL_srt sM]; exact decide_eq_true (by simp at lM; omega))
  have hNb := new_bad [s2, s1] 1 (by simp) bad21
  have o8 := stof_hc 8 [] (by simp) (by decide)
  have o7 := stof_hc 7 Y (by omega) (by decide)
  have tO := tof_ty 8 12 Y (by omega) (by decide)
  rw [newE_good g12r, newS_good g12r] at tO
  have hTe := tell_ty Y (by omega)
  have eT : shaS (byL (setL Y)) = tellS Y := rfl
  rw [eT] at hTe
  have hA : ∀ (X : List Sm) (k n : Int), X.length ≤ 1000000 → ansC X k n = 0 → ∀ w v u, (Ty.sums 28 X).p w v → (Ty.ex (.agg #[.int .i64 k, .int .i64 n, .int .u64 0])).p w u → TabOk w → Ret Tryz.prog 19 #[v, u] w (Ty.ans 0 [] 0 [] [] 1) := fun X k n hX hc w v u hv hu hT => by
    have h := answer_any X k n 0 hX (by decide) w v u hv hu hT
    rw [hc] at h
    exact h
  have hA0 := hA [] 0 0 (by simp) (by decide)
  have hA1 := hA [] 2 4 (by simp) (by decide)
  have hA2 := hA [] 4 0 (by simp) (by decide)
  have hA3 := hA [s2, s1] 1 0 (by simp) (by decide)
  refine enter_ty 266 [] Tryz.func3 rfl (by kernel_rfl) trivial fun a hF => ?_
  have hB := Below.refl W.heap.size W
  repeat with_reducible refine wp_seq ?_
  refine' reg_all hF ?_ mixed (by kernel_rfl) ?_
  rotate_left
  · repeat (first | exact Line.nil | ((refine' Line.cons rfl (.run rfl rfl ?_) ?_); (any_goals exact cAssign rfl rfl); rotate_left))
  intro a w1 hF hb hN
  have hBs := hB.size
  replace hB := hB.trans (hb.mono hB.size)
  dsimp only [ext, Option.getD] at hF
  repeat with_reducible first | refine wp_seq ?_ | refine nThen ?_
  refine' reg_all hF ?_ mixed (by kernel_rfl) ?_
  rotate_left
  · repeat (first | exact Line.nil | ((refine' Line.cons rfl (.run rfl rfl ?_) ?_); (any_goals (first | exact cNot rfl rfl | exact cCallT0 rfl (hT.below hB) enAwake18 awake18_ret)); rotate_left))
  intro a w2 hF hb hN
  have hBs := hB.size
  replace hB := hB.trans (hb.mono hB.size)
  dsimp only [ext, Option.getD] at hF
  repeat with_reducible refine nThen ?_
  refine cond_f hF rfl ?_
  repeat with_reducible first | refine wp_seq ?_ | refine nThen ?_ | refine wp_skip ?_
  refine' reg_all hF ?_ mixed (by kernel_rfl) ?_
  rotate_left
  · repeat (first | exact Line.nil | ((refine' Line.cons rfl (.run rfl rfl ?_) ?_); (any_goals (first | exact cMove rfl rfl | exact cAssign rfl rfl | exact cBuildC rfl build_s1 | exact cBuildC rfl build_s2 | exact cBuildSums [s2, s1] rfl (parts2v rfl rfl rfl) Tryz.underlying30 infoS rfl | exact cCallH2 rfl (.t rfl) (.t rfl) hNb | exact cExtract rfl rfl rfl)); rotate_left))
  intro a w3 hF hb hN
  have hBs := hB.size
  replace hB := hB.trans (hb.mono hB.size)
  dsimp only [ext, Option.getD] at hF
  repeat with_reducible first | refine wp_seq ?_ | refine nThen ?_
  have hw3 := hB.size
  refine' reg_all hF ?_ mixed (by kernel_rfl) ?_
  rotate_left
  · repeat (first | exact Line.nil | ((refine' Line.cons rfl (.run rfl rfl ?_) ?_); (any_goals (first | exact cMove rfl rfl | exact cAssign rfl rfl | exact cBuildV (vs := [ivz 2, ivz 3]) rfl (parts2v rfl rfl rfl) Tryz.underlying33 infoInt rfl (by simp [Value.cells, ivz]) (by decide) (by simp [maxLen]) | exact cCallS1 rfl (.t rfl) f23 | exact cCallR2 rfl (Has.c (.t rfl) seg_sl) (.t rfl) hNw (newSd_olds _ _) | exact cExtract rfl rfl rfl)); rotate_left))
  intro a w4 hF hb hN
  have hBs := hB.size
  replace hB := hB.trans (hb.mono hB.size)
  dsimp only [ext, Option.getD] at hF
  repeat with_reducible first | refine wp_seq ?_ | refine nThen ?_
  obtain ⟨z, ⟨g, m, rfl, hgw, hS⟩, hF⟩ := hF.open (s := 3) rfl
  have hgw : W.heap.size ≤ g := by
    have : w3.heap.size ≤ g := hgw
    omega
  replace hS : SideM w4 g m nilS nilS ⟨M, 1, 0, 7, [], [], 0⟩ := hS
  refine wp_region_lit ?_
  refine' tlOp hF rfl rfl rfl ?_ ?_
  rotate_left
  · exact cMove rfl rfl
  intro a x1 hF hb
  have hBs := hB.size
  replace hB := hB.trans (hb.mono hB.size)
  try (refine wpList_nil ?_)
  replace hS := hS.below hb
  refine' tlOp hF rfl rfl rfl ?_ ?_
  rotate_left
  · exact cCallX1 rfl rfl enAsk (fun W hb => ask_ret (hS.below hb))
  intro a x2 hF hb
  have hBs := hB.size
  replace hB := hB.trans (hb.mono hB.size)
  try (refine wpList_nil ?_)
  replace hS := hS.below hb
  refine tlNewAsk hF rfl rfl rfl (by decide) rfl rfl rfl rfl rfl (by simp [Value.cells, Value.oneCell']) fun a x3 hF hb => ?_
  replace hB := hB.trans (hb.mono hB.size)
  replace hS := hS.below hb
  refine wpList_nil ?_
  replace hF := hF.as hF (s := 5) (σ := Ty.at_ AskT [.int .i64 1, .int .i64 0, .int .u64 7]) rfl (fun v hv => hv)
  repeat with_reducible first | refine wp_seq ?_ | refine nThen ?_
  refine wp_region_lit ?_
  refine' tlOp hF rfl rfl rfl ?_ ?_
  rotate_left
  · exact cMove rfl rfl
  intro a x4 hF hb
  have hBs := hB.size
  replace hB := hB.trans (hb.mono hB.size)
  try (refine wpList_nil ?_)
  replace hS := hS.below hb
  refine' tlOp hF rfl rfl rfl ?_ ?_
  rotate_left
  · exact cBuildE rfl (fun w => buildT046 w)
  intro a x5 hF hb
  have hBs := hB.size
  replace hB := hB.trans (hb.mono hB.size)
  try (refine wpList_nil ?_)
  replace hS := hS.below hb
  refine' tlOp hF rfl rfl rfl ?_ ?_
  rotate_left
  · exact cBuildE rfl build_s0
  intro a x6 hF hb
  have hBs := hB.size
  replace hB := hB.trans (hb.mono hB.size)
  try (refine wpList_nil ?_)
  replace hS := hS.below hb
  refine tlTable (Δ := [(2, Ty.ex (.int .i64 1)), (3, Ty.ex (.pointer (some ⟨g, 0, none⟩))), (5, Ty.at_ AskT [.int .i64 1, .int .i64 0, .int .u64 7])]) hF rfl rfl (by decide) rfl rfl rfl (fun w v h => tab0_of h) rfl hS c0.1 c0.2 hbd (by decide) (by simp) (by simp) (by simp) (hF.keep [2, 3, 5]) rfl fun a x7 t o hF hS hk => ?_
  replace hB := below_own hB hk (by intro y hy; simp only [List.mem_singleton] at hy; omega)
  clear hk
  refine' tlOp hF rfl rfl rfl ?_ ?_
  rotate_left
  · exact cMove rfl rfl
  intro a x8 hF hb
  have hBs := hB.size
  replace hB := hB.trans (hb.mono hB.size)
  try (refine wpList_nil ?_)
  replace hS := hS.below hb
  refine' tlOp hF rfl rfl rfl ?_ ?_
  rotate_left
  · exact cBuildE rfl build_s0
  intro a x9 hF hb
  have hBs := hB.size
  replace hB := hB.trans (hb.mono hB.size)
  try (refine wpList_nil ?_)
  replace hS := hS.below hb
  refine tlList (Δ := [(2, Ty.ex (.int .i64 1)), (3, Ty.ex (.pointer (some ⟨g, 0, none⟩))), (5, Ty.at_ AskT [.int .i64 1, .int .i64 0, .int .u64 7]), (61, Ty.ex (.int .i64 5))]) hF rfl rfl (by decide) rfl rfl rfl (sums_nil _) rfl hS c1.1 c1.2 hbd (by simp) (by simp) (hF.keep [2, 3, 5, 61]) rfl fun a x10 t o hF hS hk => ?_
  replace hB := below_own hB hk (by intro y hy; simp only [List.mem_singleton] at hy; omega)
  clear hk
  refine' tlOp hF rfl rfl rfl ?_ ?_
  rotate_left
  · exact cAssign rfl rfl
  intro a x11 hF hb
  have hBs := hB.size
  replace hB := hB.trans (hb.mono hB.size)
  try (refine wpList_nil ?_)
  replace hS := hS.below hb
  refine' tlOp hF rfl rfl rfl ?_ ?_
  rotate_left
  · exact cAssign rfl rfl
  intro a x12 hF hb
  have hBs := hB.size
  replace hB := hB.trans (hb.mono hB.size)
  try (refine wpList_nil ?_)
  repeat with_reducible first | refine wp_seq ?_ | refine nThen ?_
  replace hS := hS.below hb
  refine wp_region_lit ?_
  refine' tlOp hF rfl rfl rfl ?_ ?_
  rotate_left
  · exact cMove rfl rfl
  intro a x13 hF hb
  have hBs := hB.size
  replace hB := hB.trans (hb.mono hB.size)
  try (refine wpList_nil ?_)
  replace hS := hS.below hb
  refine' tlOp hF rfl rfl rfl ?_ ?_
  rotate_left
  · exact cCallT2 rfl (.t rfl) (Has.c (.t rfl) nil_sumsK) (hT.below hB) enOf o8
  intro a x14 hF hb
  have hBs := hB.size
  replace hB := hB.trans (hb.mono hB.size)
  try (refine wpList_nil ?_)
  replace hS := hS.below hb
  refine tlStrata (Δ := [(2, Ty.ex (.int .i64 1)), (3, Ty.ex (.pointer (some ⟨g, 0, none⟩))), (5, Ty.at_ AskT [.int .i64 1, .int .i64 0, .int .u64 7]), (6, Ty.ex (.int .i64 5)), (7, Ty.ex (.int .i64 5))]) hF rfl rfl (by decide) rfl rfl rfl hS (hT.below hB) c2.1 c2.2 hbd (by rw [stL_len]; omega) (by simp) (by simp) (hF.keep [2, 3, 5, 6, 7]) rfl fun a x15 t o hF hS hk => ?_
  replace hB := below_own hB hk (by intro y hy; simp only [List.mem_singleton] at hy; omega)
  clear hk
  refine' tlOp hF rfl rfl rfl ?_ ?_
  rotate_left
  · exact cAssign rfl rfl
  intro a x16 hF hb
  have hBs := hB.size
  replace hB := hB.trans (hb.mono hB.size)
  try (refine wpList_nil ?_)
  repeat with_reducible first | refine wp_seq ?_ | refine nThen ?_
  replace hS := hS.below hb
  refine wp_region_lit ?_
  refine' tlOp hF rfl rfl rfl ?_ ?_
  rotate_left
  · exact cMove rfl rfl
  intro a x17 hF hb
  have hBs := hB.size
  replace hB := hB.trans (hb.mono hB.size)
  try (refine wpList_nil ?_)
  replace hS := hS.below hb
  refine' tlOp hF rfl rfl rfl ?_ ?_
  rotate_left
  · exact cCallX1 rfl rfl enAsk (fun W hb => ask_ret (hS.below hb))
  intro a x18 hF hb
  have hBs := hB.size
  replace hB := hB.trans (hb.mono hB.size)
  try (refine wpList_nil ?_)
  replace hS := hS.below hb
  refine tlNewAsk hF rfl rfl rfl (by decide) rfl rfl rfl rfl rfl (by simp [Value.cells, Value.oneCell']) fun a x19 hF hb => ?_
  replace hB := hB.trans (hb.mono hB.size)
  replace hS := hS.below hb
  refine wpList_nil ?_
  replace hF := hF.as hF (s := 9) (σ := Ty.at_ AskT [.int .i64 1, .int .i64 0, .int .u64 7]) rfl (fun v hv => hv)
  repeat with_reducible first | refine wp_seq ?_ | refine nThen ?_
  refine wp_region_lit ?_
  refine' tlOp hF rfl rfl rfl ?_ ?_
  rotate_left
  · exact cMove rfl rfl
  intro a x20 hF hb
  have hBs := hB.size
  replace hB := hB.trans (hb.mono hB.size)
  try (refine wpList_nil ?_)
  replace hS := hS.below hb
  refine' tlOp hF rfl rfl rfl ?_ ?_
  rotate_left
  · exact cBuildV (vs := [ivz 1, ivz 2]) rfl (parts2v rfl rfl rfl) Tryz.underlying33 infoInt rfl (by simp [Value.cells, ivz]) (by decide) (by simp [maxLen])
  intro a x21 hF hb
  have hBs := hB.size
  replace hB := hB.trans (hb.mono hB.size)
  try (refine wpList_nil ?_)
  replace hS := hS.below hb
  refine' tlOp hF rfl rfl rfl ?_ ?_
  rotate_left
  · exact cCallS1 rfl (.t rfl) f12
  intro a x22 hF hb
  have hBs := hB.size
  replace hB := hB.trans (hb.mono hB.size)
  try (refine wpList_nil ?_)
  replace hS := hS.below hb
  refine' tlOp hF rfl rfl rfl ?_ ?_
  rotate_left
  · exact cCallT2 rfl (.t rfl) (Has.c (.t rfl) seg_sl) (hT.below hB) enOf o7
  intro a x23 hF hb
  have hBs := hB.size
  replace hB := hB.trans (hb.mono hB.size)
  try (refine wpList_nil ?_)
  replace hS := hS.below hb
  refine tlStrata (Δ := [(2, Ty.ex (.int .i64 1)), (3, Ty.ex (.pointer (some ⟨g, 0, none⟩))), (5, Ty.at_ AskT [.int .i64 1, .int .i64 0, .int .u64 7]), (6, Ty.ex (.int .i64 5)), (7, Ty.ex (.int .i64 5)), (8, Ty.ex (.int .i64 1)), (9, Ty.at_ AskT [.int .i64 1, .int .i64 0, .int .u64 7])]) hF rfl rfl (by decide) rfl rfl rfl hS (hT.below hB) c3.1 c3.2 hbd (by rw [stL_len]; omega) (by simp) (by simp) (hF.keep [2, 3, 5, 6, 7, 8, 9]) rfl fun a x24 t o hF hS hk => ?_
  replace hB := below_own hB hk (by intro y hy; simp only [List.mem_singleton] at hy; omega)
  clear hk
  refine' tlOp hF rfl rfl rfl ?_ ?_
  rotate_left
  · exact cAssign rfl rfl
  intro a x25 hF hb
  have hBs := hB.size
  replace hB := hB.trans (hb.mono hB.size)
  try (refine wpList_nil ?_)
  repeat with_reducible first | refine wp_seq ?_ | refine nThen ?_
  replace hS := hS.below hb
  refine wp_region_lit ?_
  refine' tlOp hF rfl rfl rfl ?_ ?_
  rotate_left
  · exact cMove rfl rfl
  intro a x26 hF hb
  have hBs := hB.size
  replace hB := hB.trans (hb.mono hB.size)
  try (refine wpList_nil ?_)
  replace hS := hS.below hb
  refine' tlOp hF rfl rfl rfl ?_ ?_
  rotate_left
  · exact cCallX1 rfl rfl enAsk (fun W hb => ask_ret (hS.below hb))
  intro a x27 hF hb
  have hBs := hB.size
  replace hB := hB.trans (hb.mono hB.size)
  try (refine wpList_nil ?_)
  replace hS := hS.below hb
  refine tlNewAsk hF rfl rfl rfl (by decide) rfl rfl rfl rfl rfl (by simp [Value.cells, Value.oneCell']) fun a x28 hF hb => ?_
  replace hB := hB.trans (hb.mono hB.size)
  replace hS := hS.below hb
  refine wpList_nil ?_
  replace hF := hF.as hF (s := 11) (σ := Ty.at_ AskT [.int .i64 2, .int .i64 12, .int .u64 8]) rfl (fun v hv => hv)
  repeat with_reducible first | refine wp_seq ?_ | refine nThen ?_
  have hB0 := hB
  have hw0 := hB.size
  replace hB := Below.refl x28.heap.size x28
  refine wp_region_lit ?_
  refine' tlOp hF rfl rfl rfl ?_ ?_
  rotate_left
  · exact cBuildV (vs := [ivz 1, ivz 2]) rfl (parts2v rfl rfl rfl) Tryz.underlying33 infoInt rfl (by simp [Value.cells, ivz]) (by decide) (by simp [maxLen])
  intro a x29_0 hF hb
  replace hB := hB.trans (hb.mono hB.size)
  refine' tlOp hF rfl rfl rfl ?_ ?_
  rotate_left
  · exact cCallS1 rfl (.t rfl) f12
  intro a x29_1 hF hb
  replace hB := hB.trans (hb.mono hB.size)
  refine' tlOp hF rfl rfl rfl ?_ ?_
  rotate_left
  · exact cCallR3 rfl (.t rfl) (.t rfl) (Has.c (.t rfl) seg_sl) tO (tabE_olds _ _ _ _)
  intro a x29_2 hF hb
  replace hB := hB.trans (hb.mono hB.size)
  refine' tlOp hF rfl rfl rfl ?_ ?_
  rotate_left
  · exact cMove rfl rfl
  intro a x29_3 hF hb
  replace hB := hB.trans (hb.mono hB.size)
  refine' tlOp hF rfl rfl rfl ?_ ?_
  rotate_left
  · exact cExtT rfl rfl
  intro a x29_t hF hb
  replace hB := hB.trans (hb.mono hB.size)
  refine' tlOp hF rfl rfl rfl ?_ ?_
  rotate_left
  · exact cExtE rfl rfl
  intro a x29_e hF hb
  replace hB := hB.trans (hb.mono hB.size)
  refine tlNewTab hF rfl rfl rfl (by decide) rfl (run_alloc_i infoT46) rfl rfl rfl rfl tabO_tab sizeT46 fun a x29_n hF hb => ?_
  replace hB := hB.trans (hb.mono hB.size)
  refine' tlOp hF rfl rfl rfl ?_ ?_
  rotate_left
  · exact cAssign rfl rfl
  intro a x29 hF hb
  replace hB := hB.trans (hb.mono hB.size)
  try (refine wpList_nil ?_)
  repeat with_reducible first | refine wp_seq ?_ | refine nThen ?_
  replace hS := hS.below hB
  replace hB := hB0.trans (hB.mono hw0)
  clear hB0 hw0
  refine wp_region_lit ?_
  refine' tlOp hF rfl rfl rfl ?_ ?_
  rotate_left
  · exact cMove rfl rfl
  intro a x30 hF hb
  have hBs := hB.size
  replace hB := hB.trans (hb.mono hB.size)
  try (refine wpList_nil ?_)
  replace hS := hS.below hb
  refine' tlOp hF rfl rfl rfl ?_ ?_
  rotate_left
  · exact cLoadTab46 rfl (.t rfl)
  intro a x31 hF hb
  have hBs := hB.size
  replace hB := hB.trans (hb.mono hB.size)
  try (refine wpList_nil ?_)
  replace hS := hS.below hb
  refine' tlOp hF rfl rfl rfl ?_ ?_
  rotate_left
  · exact cBuildC rfl build_s1
  intro a x32 hF hb
  have hBs := hB.size
  replace hB := hB.trans (hb.mono hB.size)
  try (refine wpList_nil ?_)
  replace hS := hS.below hb
  refine tlTable (Δ := [(2, Ty.ex (.int .i64 1)), (3, Ty.ex (.pointer (some ⟨g, 0, none⟩))), (5, Ty.at_ AskT [.int .i64 1, .int .i64 0, .int .u64 7]), (6, Ty.ex (.int .i64 5)), (7, Ty.ex (.int .i64 5)), (8, Ty.ex (.int .i64 1)), (9, Ty.at_ AskT [.int .i64 1, .int .i64 0, .int .u64 7]), (10, Ty.ex (.int .i64 0)), (11, Ty.at_ AskT [.int .i64 2, .int .i64 12, .int .u64 8]), (12, Ty.tabP 40 69 8 (ofL 8 12 Y))]) hF rfl rfl (by decide) rfl rfl rfl (fun w v h => h) rfl hS c4.1 c4.2 hbd (by decide) (by simp) (by simp) (by simp) (hF.keep [2, 3, 5, 6, 7, 8, 9, 10, 11, 12]) rfl fun a x33 t o hF hS hk => ?_
  replace hB := below_own hB hk (by intro y hy; simp only [List.mem_singleton] at hy; omega)
  clear hk
  refine' tlOp hF rfl rfl rfl ?_ ?_
  rotate_left
  · exact cAssign rfl rfl
  intro a x34 hF hb
  have hBs := hB.size
  replace hB := hB.trans (hb.mono hB.size)
  try (refine wpList_nil ?_)
  repeat with_reducible first | refine wp_seq ?_ | refine nThen ?_
  replace hS := hS.below hb
  refine wp_region_lit ?_
  refine' tlOp hF rfl rfl rfl ?_ ?_
  rotate_left
  · exact cMove rfl rfl
  intro a x35 hF hb
  have hBs := hB.size
  replace hB := hB.trans (hb.mono hB.size)
  try (refine wpList_nil ?_)
  replace hS := hS.below hb
  refine' tlOp hF rfl rfl rfl ?_ ?_
  rotate_left
  · exact cCallX1 rfl rfl enAsk (fun W hb => ask_ret (hS.below hb))
  intro a x36 hF hb
  have hBs := hB.size
  replace hB := hB.trans (hb.mono hB.size)
  try (refine wpList_nil ?_)
  replace hS := hS.below hb
  refine tlNewAsk hF rfl rfl rfl (by decide) rfl rfl rfl rfl rfl (by simp [Value.cells, Value.oneCell']) fun a x37 hF hb => ?_
  replace hB := hB.trans (hb.mono hB.size)
  replace hS := hS.below hb
  refine wpList_nil ?_
  replace hF := hF.as hF (s := 15) (σ := Ty.at_ AskT [.int .i64 2, .int .i64 24, .int .u64 9]) rfl (fun v hv => hv)
  repeat with_reducible first | refine wp_seq ?_ | refine nThen ?_
  refine' region_ty 5 mixed (by kernel_rfl) hF ?_ ?_
  rotate_left
  · simp only [List.take_succ_cons, List.take_zero]
    repeat (first | exact Line.nil | ((refine' Line.cons rfl (.run rfl rfl ?_) ?_); (any_goals (first | exact cMove rfl rfl | exact cLoadTab46 rfl (.t rfl) | exact cBuildV (vs := [ivz 1, ivz 2]) rfl (parts2v rfl rfl rfl) Tryz.underlying33 infoInt rfl (by simp [Value.cells, ivz]) (by decide) (by simp [maxLen]) | exact cCallS1 rfl (.t rfl) f12 | exact cCallH1 rfl (Has.c (.t rfl) seg_sl) hTe)); rotate_left))
  intro a x38 hF hb hN
  have hBs := hB.size
  replace hB := hB.trans (hb.mono hB.size)
  simp only [List.take_succ_cons, List.take_zero, List.drop_succ_cons, List.drop_zero] at hF hN ⊢
  dsimp only [ext, Option.getD] at hF
  replace hS := hS.below hb
  refine tlTable (Δ := [(2, Ty.ex (.int .i64 1)), (3, Ty.ex (.pointer (some ⟨g, 0, none⟩))), (5, Ty.at_ AskT [.int .i64 1, .int .i64 0, .int .u64 7]), (6, Ty.ex (.int .i64 5)), (7, Ty.ex (.int .i64 5)), (8, Ty.ex (.int .i64 1)), (9, Ty.at_ AskT [.int .i64 1, .int .i64 0, .int .u64 7]), (10, Ty.ex (.int .i64 0)), (11, Ty.at_ AskT [.int .i64 2, .int .i64 12, .int .u64 8]), (14, Ty.ex (.int .i64 10)), (15, Ty.at_ AskT [.int .i64 2, .int .i64 24, .int .u64 9])]) hF rfl rfl (by decide) rfl rfl rfl (fun w v h => h) rfl hS c5.1 c5.2 hbd (by decide) (by simp) (by simp) (by simp) (hF.keep [2, 3, 5, 6, 7, 8, 9, 10, 11, 14, 15]) rfl fun a x39 t o hF hS hk => ?_
  replace hB := below_own hB hk (by intro y hy; simp only [List.mem_singleton] at hy; omega)
  clear hk
  refine' tlOp hF rfl rfl rfl ?_ ?_
  rotate_left
  · exact cAssign rfl rfl
  intro a x40 hF hb
  have hBs := hB.size
  replace hB := hB.trans (hb.mono hB.size)
  try (refine wpList_nil ?_)
  repeat with_reducible first | refine wp_seq ?_ | refine nThen ?_
  replace hS := hS.below hb
  refine' reg_all hF ?_ mixed (by kernel_rfl) ?_
  rotate_left
  · repeat (first | exact Line.nil | ((refine' Line.cons rfl (.run rfl rfl ?_) ?_); (any_goals exact cAssign rfl rfl); rotate_left))
  intro a x41 hF hb hN
  have hBs := hB.size
  replace hB := hB.trans (hb.mono hB.size)
  dsimp only [ext, Option.getD] at hF
  repeat with_reducible first | refine nThen ?_ | refine wp_block ?_
  replace hS := hS.below hb
  refine loop_ty (fun mm a wr => ∃ (i : Nat) (t o : Value), i + mm = 7 ∧ Fr 266 [(2, Ty.ex (.int .i64 1)), (3, Ty.ex (.pointer (some ⟨g, 0, none⟩))), (5, Ty.at_ AskT [.int .i64 1, .int .i64 0, .int .u64 7]), (6, Ty.ex (.int .i64 5)), (7, Ty.ex (.int .i64 5)), (8, Ty.ex (.int .i64 1)), (9, Ty.at_ AskT [.int .i64 1, .int .i64 0, .int .u64 7]), (10, Ty.ex (.int .i64 0)), (11, Ty.at_ AskT [.int .i64 2, .int .i64 12, .int .u64 8]), (14, Ty.ex (.int .i64 10)), (15, Ty.at_ AskT [.int .i64 2, .int .i64 24, .int .u64 9]), (16, Ty.ex (.int .i64 1)), (17, Ty.ex (.int .i64 (i : Int)))] a wr ∧ Below W.heap.size W wr ∧ SideM wr g m t o (if i < 7 then ⟨M, 2, nAt i, 9 + i, [], [], 2 + i⟩ else ⟨M, 3, 0, 0, [], [], 9⟩)) 7 ?_ ?_
  · exact ⟨0, t, o, rfl, hF.keep [2, 3, 5, 6, 7, 8, 9, 10, 11, 14, 15, 16, 17], hB, hS⟩
  clear hF hB hS
  rintro mm a wr ⟨i, t, o, hi, hF, hB, hS⟩
  repeat with_reducible refine wp_seq ?_
  by_cases hlt : i < 7
  · rw [if_pos hlt] at hS
    have ck := ckL i hlt
    obtain ⟨ng, n0, n1⟩ := nAt_good i hlt
    refine' reg_all hF ?_ mixed (by kernel_rfl) ?_
    rotate_left
    · repeat (first | exact Line.nil | ((refine' Line.cons rfl (.run rfl rfl ?_) ?_); (any_goals (first | exact cMove rfl rfl | exact OpOk.b (c := true) (cLss rfl rfl rfl) (decide_eq_true (by omega)))); rotate_left))
    intro a x42 hF hb hN
    have hBs := hB.size
    replace hB := hB.trans (hb.mono hB.size)
    dsimp only [ext, Option.getD] at hF
    repeat with_reducible refine nThen ?_
    replace hS := hS.below hb
    refine cond_t hF rfl ?_
    repeat with_reducible first | refine wp_seq ?_ | refine nThen ?_ | refine wp_skip ?_ | refine wp_block ?_
    refine wp_region_lit ?_
    refine' tlOp hF rfl rfl rfl ?_ ?_
    rotate_left
    · exact cMove rfl rfl
    intro a x43 hF hb
    have hBs := hB.size
    replace hB := hB.trans (hb.mono hB.size)
    try (refine wpList_nil ?_)
    replace hS := hS.below hb
    refine' tlOp hF rfl rfl rfl ?_ ?_
    rotate_left
    · exact cCallX1 rfl rfl enAsk (fun W hb => ask_ret (hS.below hb))
    intro a x44 hF hb
    have hBs := hB.size
    replace hB := hB.trans (hb.mono hB.size)
    try (refine wpList_nil ?_)
    replace hS := hS.below hb
    refine tlNewAsk hF rfl rfl rfl (by decide) rfl rfl rfl rfl rfl (by simp [Value.cells, Value.oneCell']) fun a x45 hF hb => ?_
    replace hB := hB.trans (hb.mono hB.size)
    replace hS := hS.below hb
    refine wpList_nil ?_
    replace hF := hF.as hF (s := 18) (σ := Ty.at_ AskT [.int .i64 2, .int .i64 (nAt i), .int .u64 ((9 + i : Nat) : Int)]) rfl (fun v hv => hv)
    repeat with_reducible first | refine wp_seq ?_ | refine nThen ?_
    have tN := tnew_ty (9 + i) (nAt i)
    rw [newE_good ng, newS_good ng] at tN
    have hB0 := hB
    have hw0 := hB.size
    replace hB := Below.refl x45.heap.size x45
    refine wp_region_lit ?_
    refine' tlOp hF rfl rfl rfl ?_ ?_
    rotate_left
    · exact cAkA2 rfl (.t rfl)
    intro a x46_0 hF hb
    replace hB := hB.trans (hb.mono hB.size)
    refine' tlOp hF rfl rfl rfl ?_ ?_
    rotate_left
    · exact cLdU64 rfl (.t rfl)
    intro a x46_1 hF hb
    replace hB := hB.trans (hb.mono hB.size)
    refine' tlOp hF rfl rfl rfl ?_ ?_
    rotate_left
    · exact cAkA1 rfl (.t rfl)
    intro a x46_2 hF hb
    replace hB := hB.trans (hb.mono hB.size)
    refine' tlOp hF rfl rfl rfl ?_ ?_
    rotate_left
    · exact cLdInt rfl (.t rfl)
    intro a x46_3 hF hb
    replace hB := hB.trans (hb.mono hB.size)
    refine' tlOp hF rfl rfl rfl ?_ ?_
    rotate_left
    · exact cCallR2 rfl (.t rfl) (.t rfl) tN (tabE_olds _ _ _ _)
    intro a x46_4 hF hb
    replace hB := hB.trans (hb.mono hB.size)
    refine' tlOp hF rfl rfl rfl ?_ ?_
    rotate_left
    · exact cMove rfl rfl
    intro a x46_5 hF hb
    replace hB := hB.trans (hb.mono hB.size)
    refine' tlOp hF rfl rfl rfl ?_ ?_
    rotate_left
    · exact cExtT rfl rfl
    intro a x46_t hF hb
    replace hB := hB.trans (hb.mono hB.size)
    refine' tlOp hF rfl rfl rfl ?_ ?_
    rotate_left
    · exact cExtE rfl rfl
    intro a x46_e hF hb
    replace hB := hB.trans (hb.mono hB.size)
    refine tlNewTab hF rfl rfl rfl (by decide) rfl (run_alloc_i infoT46) rfl rfl rfl rfl tabO_tab sizeT46 fun a x46_n hF hb => ?_
    replace hB := hB.trans (hb.mono hB.size)
    refine' tlOp hF rfl rfl rfl ?_ ?_
    rotate_left
    · exact cAssign rfl rfl
    intro a x46 hF hb
    replace hB := hB.trans (hb.mono hB.size)
    try (refine wpList_nil ?_)
    repeat with_reducible first | refine wp_seq ?_ | refine nThen ?_
    replace hS := hS.below hB
    replace hB := hB0.trans (hB.mono hw0)
    clear hB0 hw0
    refine wp_region_lit ?_
    refine' tlOp hF rfl rfl rfl ?_ ?_
    rotate_left
    · exact cMove rfl rfl
    intro a x47 hF hb
    have hBs := hB.size
    replace hB := hB.trans (hb.mono hB.size)
    try (refine wpList_nil ?_)
    replace hS := hS.below hb
    refine' tlOp hF rfl rfl rfl ?_ ?_
    rotate_left
    · exact cLoadTab46 rfl (.t rfl)
    intro a x48 hF hb
    have hBs := hB.size
    replace hB := hB.trans (hb.mono hB.size)
    try (refine wpList_nil ?_)
    replace hS := hS.below hb
    refine' tlOp hF rfl rfl rfl ?_ ?_
    rotate_left
    · exact cBuildC rfl build_s1
    intro a x49 hF hb
    have hBs := hB.size
    replace hB := hB.trans (hb.mono hB.size)
    try (refine wpList_nil ?_)
    replace hS := hS.below hb
    refine tlTable (Δ := [(2, Ty.ex (.int .i64 1)), (3, Ty.ex (.pointer (some ⟨g, 0, none⟩))), (5, Ty.at_ AskT [.int .i64 1, .int .i64 0, .int .u64 7]), (6, Ty.ex (.int .i64 5)), (7, Ty.ex (.int .i64 5)), (8, Ty.ex (.int .i64 1)), (9, Ty.at_ AskT [.int .i64 1, .int .i64 0, .int .u64 7]), (10, Ty.ex (.int .i64 0)), (11, Ty.at_ AskT [.int .i64 2, .int .i64 12, .int .u64 8]), (14, Ty.ex (.int .i64 10)), (15, Ty.at_ AskT [.int .i64 2, .int .i64 24, .int .u64 9]), (16, Ty.ex (.int .i64 1)), (17, Ty.ex (.int .i64 (i : Int)))]) hF rfl rfl (by decide) rfl rfl rfl (fun w v h => h) rfl hS ck.1 ck.2 hbd (by omega) (show 2 + i ≤ 1000000 by omega) n0 (by show nAt i ≤ 1000000; omega) (hF.keep [2, 3, 5, 6, 7, 8, 9, 10, 11, 14, 15, 16, 17]) rfl fun a x50 t o hF hS hk => ?_
    replace hB := below_own hB hk (by intro y hy; simp only [List.mem_singleton] at hy; omega)
    clear hk
    refine' tlOp hF rfl rfl rfl ?_ ?_
    rotate_left
    · exact OpOk.b (c := false) (cNeq rfl rfl rfl) rfl
    intro a x51 hF hb
    have hBs := hB.size
    replace hB := hB.trans (hb.mono hB.size)
    try (refine wpList_nil ?_)
    repeat with_reducible refine nThen ?_
    replace hS := hS.below hb
    refine cond_f hF rfl ?_
    repeat with_reducible first | refine nThen ?_ | refine nBlk ?_ | refine wp_skip ?_
    refine' reg_all hF ?_ mixed (by kernel_rfl) ?_
    rotate_left
    · repeat (first | exact Line.nil | ((refine' Line.cons rfl (.run rfl rfl ?_) ?_); (any_goals (first | exact cMove rfl rfl | exact cAssign rfl rfl | exact cAdd (r := ((i + 1 : Nat) : Int)) rfl rfl rfl (by omega))); rotate_left))
    intro a x52 hF hb hN
    have hBs := hB.size
    replace hB := hB.trans (hb.mono hB.size)
    dsimp only [ext, Option.getD] at hF
    repeat with_reducible refine nThen ?_
    replace hS := hS.below hb
    refine ⟨mm - 1, by omega, i + 1, t, o, by omega, hF.keep [2, 3, 5, 6, 7, 8, 9, 10, 11, 14, 15, 16, 17], hB, ?_⟩
    by_cases h6 : i < 6
    · rw [if_pos h6] at hS; rw [if_pos (by omega)]; exact hS
    · rw [if_neg h6] at hS; rw [if_neg (by omega)]; exact hS
  rw [if_neg hlt] at hS
  refine' reg_all hF ?_ mixed (by kernel_rfl) ?_
  rotate_left
  · repeat (first | exact Line.nil | ((refine' Line.cons rfl (.run rfl rfl ?_) ?_); (any_goals (first | exact cMove rfl rfl | exact OpOk.b (c := false) (cLss rfl rfl rfl) (decide_eq_false (by omega)))); rotate_left))
  intro a x53 hF hb hN
  have hBs := hB.size
  replace hB := hB.trans (hb.mono hB.size)
  dsimp only [ext, Option.getD] at hF
  repeat with_reducible refine nThen ?_
  replace hS := hS.below hb
  refine cond_f hF rfl ?_
  repeat with_reducible first | refine wp_seq ?_ | refine nThen ?_ | refine wp_exit ?_ | refine xThen ?_ | refine xHere ?_
  refine wp_region_lit ?_
  refine' tlOp hF rfl rfl rfl ?_ ?_
  rotate_left
  · exact cMove rfl rfl
  intro a x54 hF hb
  have hBs := hB.size
  replace hB := hB.trans (hb.mono hB.size)
  try (refine wpList_nil ?_)
  replace hS := hS.below hb
  refine' tlOp hF rfl rfl rfl ?_ ?_
  rotate_left
  · exact cCallX1 rfl rfl enAsk (fun W hb => ask_ret (hS.below hb))
  intro a x55 hF hb
  have hBs := hB.size
  replace hB := hB.trans (hb.mono hB.size)
  try (refine wpList_nil ?_)
  replace hS := hS.below hb
  refine tlNewAsk hF rfl rfl rfl (by decide) rfl rfl rfl rfl rfl (by simp [Value.cells, Value.oneCell']) fun a x56 hF hb => ?_
  replace hB := hB.trans (hb.mono hB.size)
  replace hS := hS.below hb
  refine wpList_nil ?_
  replace hF := hF.as hF (s := 21) (σ := Ty.at_ AskT [.int .i64 3, .int .i64 0, .int .u64 0]) rfl (fun v hv => hv)
  repeat with_reducible first | refine wp_seq ?_ | refine nThen ?_
  refine wp_region_lit ?_
  refine' tlOp hF rfl rfl rfl ?_ ?_
  rotate_left
  · exact cMove rfl rfl
  intro a x57 hF hb
  have hBs := hB.size
  replace hB := hB.trans (hb.mono hB.size)
  try (refine wpList_nil ?_)
  replace hS := hS.below hb
  refine' tlOp hF rfl rfl rfl ?_ ?_
  rotate_left
  · exact cBuildV (vs := [ivz 1, ivz 2]) rfl (parts2v rfl rfl rfl) Tryz.underlying33 infoInt rfl (by simp [Value.cells, ivz]) (by decide) (by simp [maxLen])
  intro a x58 hF hb
  have hBs := hB.size
  replace hB := hB.trans (hb.mono hB.size)
  try (refine wpList_nil ?_)
  replace hS := hS.below hb
  refine' tlOp hF rfl rfl rfl ?_ ?_
  rotate_left
  · exact cCallS1 rfl (.t rfl) f12
  intro a x59 hF hb
  have hBs := hB.size
  replace hB := hB.trans (hb.mono hB.size)
  try (refine wpList_nil ?_)
  replace hS := hS.below hb
  refine' tlOp hF rfl rfl rfl ?_ ?_
  rotate_left
  · exact cBuildC rfl build_s1
  intro a x60 hF hb
  have hBs := hB.size
  replace hB := hB.trans (hb.mono hB.size)
  try (refine wpList_nil ?_)
  replace hS := hS.below hb
  obtain ⟨v118, hv118, hF⟩ := hF.open (s := 118) rfl
  refine tlList (Δ := [(2, Ty.ex (.int .i64 1)), (3, Ty.ex (.pointer (some ⟨g, 0, none⟩))), (5, Ty.at_ AskT [.int .i64 1, .int .i64 0, .int .u64 7]), (6, Ty.ex (.int .i64 5)), (7, Ty.ex (.int .i64 5)), (8, Ty.ex (.int .i64 1)), (9, Ty.at_ AskT [.int .i64 1, .int .i64 0, .int .u64 7]), (10, Ty.ex (.int .i64 0)), (11, Ty.at_ AskT [.int .i64 2, .int .i64 12, .int .u64 8]), (14, Ty.ex (.int .i64 10)), (15, Ty.at_ AskT [.int .i64 2, .int .i64 24, .int .u64 9]), (16, Ty.ex (.int .i64 1)), (21, Ty.at_ AskT [.int .i64 3, .int .i64 0, .int .u64 0])]) hF rfl rfl (by decide) rfl rfl (hF.getEx (s := 118) rfl) (seg_sl _ _ hv118) rfl hS c6.1 c6.2 hbd hbY (by simp) (hF.keep [2, 3, 5, 6, 7, 8, 9, 10, 11, 14, 15, 16, 21]) rfl fun a x61 t o hF hS hk => ?_
  replace hB := below_own hB hk (by intro y hy; simp only [List.mem_singleton] at hy; omega)
  clear hk
  refine' tlOp hF rfl rfl rfl ?_ ?_
  rotate_left
  · exact cAssign rfl rfl
  intro a x62 hF hb
  have hBs := hB.size
  replace hB := hB.trans (hb.mono hB.size)
  try (refine wpList_nil ?_)
  repeat with_reducible first | refine wp_seq ?_ | refine nThen ?_
  replace hS := hS.below hb
  refine wp_region_lit ?_
  refine' tlOp hF rfl rfl rfl ?_ ?_
  rotate_left
  · exact cMove rfl rfl
  intro a x63 hF hb
  have hBs := hB.size
  replace hB := hB.trans (hb.mono hB.size)
  try (refine wpList_nil ?_)
  replace hS := hS.below hb
  refine' tlOp hF rfl rfl rfl ?_ ?_
  rotate_left
  · exact cBuildC rfl build_s2
  intro a x64 hF hb
  have hBs := hB.size
  replace hB := hB.trans (hb.mono hB.size)
  try (refine wpList_nil ?_)
  replace hS := hS.below hb
  refine' tlOp hF rfl rfl rfl ?_ ?_
  rotate_left
  · exact cBuildC rfl build_s1
  intro a x65 hF hb
  have hBs := hB.size
  replace hB := hB.trans (hb.mono hB.size)
  try (refine wpList_nil ?_)
  replace hS := hS.below hb
  refine' tlOp hF rfl rfl rfl ?_ ?_
  rotate_left
  · exact cBuildSums [s2, s1] rfl (parts2v rfl rfl rfl) Tryz.underlying30 infoS rfl
  intro a x66 hF hb
  have hBs := hB.size
  replace hB := hB.trans (hb.mono hB.size)
  try (refine wpList_nil ?_)
  replace hS := hS.below hb
  refine' tlOp hF rfl rfl rfl ?_ ?_
  rotate_left
  · exact cBuildC rfl build_s1
  intro a x67 hF hb
  have hBs := hB.size
  replace hB := hB.trans (hb.mono hB.size)
  try (refine wpList_nil ?_)
  replace hS := hS.below hb
  obtain ⟨v124, hv124, hF⟩ := hF.open (s := 124) rfl
  refine tlList (Δ := [(2, Ty.ex (.int .i64 1)), (3, Ty.ex (.pointer (some ⟨g, 0, none⟩))), (5, Ty.at_ AskT [.int .i64 1, .int .i64 0, .int .u64 7]), (6, Ty.ex (.int .i64 5)), (7, Ty.ex (.int .i64 5)), (8, Ty.ex (.int .i64 1)), (9, Ty.at_ AskT [.int .i64 1, .int .i64 0, .int .u64 7]), (10, Ty.ex (.int .i64 0)), (11, Ty.at_ AskT [.int .i64 2, .int .i64 12, .int .u64 8]), (14, Ty.ex (.int .i64 10)), (15, Ty.at_ AskT [.int .i64 2, .int .i64 24, .int .u64 9]), (16, Ty.ex (.int .i64 1)), (21, Ty.at_ AskT [.int .i64 3, .int .i64 0, .int .u64 0]), (22, Ty.ex (.int .i64 11))]) hF rfl rfl (by decide) rfl rfl (hF.getEx (s := 124) rfl) hv124 rfl hS c7.1 c7.2 hbd (by simp) (by simp) (hF.keep [2, 3, 5, 6, 7, 8, 9, 10, 11, 14, 15, 16, 21, 22]) rfl fun a x68 t o hF hS hk => ?_
  replace hB := below_own hB hk (by intro y hy; simp only [List.mem_singleton] at hy; omega)
  clear hk
  refine' tlOp hF rfl rfl rfl ?_ ?_
  rotate_left
  · exact cAssign rfl rfl
  intro a x69 hF hb
  have hBs := hB.size
  replace hB := hB.trans (hb.mono hB.size)
  try (refine wpList_nil ?_)
  repeat with_reducible first | refine wp_seq ?_ | refine nThen ?_
  replace hS := hS.below hb
  refine wp_region_lit ?_
  refine' tlOp hF rfl rfl rfl ?_ ?_
  rotate_left
  · exact cMove rfl rfl
  intro a x70 hF hb
  have hBs := hB.size
  replace hB := hB.trans (hb.mono hB.size)
  try (refine wpList_nil ?_)
  replace hS := hS.below hb
  refine' tlOp hF rfl rfl rfl ?_ ?_
  rotate_left
  · exact cBuildV (vs := [ivz 1, ivz 2]) rfl (parts2v rfl rfl rfl) Tryz.underlying33 infoInt rfl (by simp [Value.cells, ivz]) (by decide) (by simp [maxLen])
  intro a x71 hF hb
  have hBs := hB.size
  replace hB := hB.trans (hb.mono hB.size)
  try (refine wpList_nil ?_)
  replace hS := hS.below hb
  refine' tlOp hF rfl rfl rfl ?_ ?_
  rotate_left
  · exact cCallS1 rfl (.t rfl) f12
  intro a x72 hF hb
  have hBs := hB.size
  replace hB := hB.trans (hb.mono hB.size)
  try (refine wpList_nil ?_)
  replace hS := hS.below hb
  refine' tlOp hF rfl rfl rfl ?_ ?_
  rotate_left
  · exact cBuildV (vs := [ivz 1, ivz 2]) rfl (parts2v rfl rfl rfl) Tryz.underlying33 infoInt rfl (by simp [Value.cells, ivz]) (by decide) (by simp [maxLen])
  intro a x73 hF hb
  have hBs := hB.size
  replace hB := hB.trans (hb.mono hB.size)
  try (refine wpList_nil ?_)
  replace hS := hS.below hb
  refine' tlOp hF rfl rfl rfl ?_ ?_
  rotate_left
  · exact cCallS1 rfl (.t rfl) f12
  intro a x74 hF hb
  have hBs := hB.size
  replace hB := hB.trans (hb.mono hB.size)
  try (refine wpList_nil ?_)
  replace hS := hS.below hb
  refine' tlOp hF rfl rfl rfl ?_ ?_
  rotate_left
  · exact cCallH1 rfl (Has.c (.t rfl) seg_sl) hTe
  intro a x75 hF hb
  have hBs := hB.size
  replace hB := hB.trans (hb.mono hB.size)
  try (refine wpList_nil ?_)
  replace hS := hS.below hb
  obtain ⟨v129, hv129, hF⟩ := hF.open (s := 129) rfl
  refine tlList (Δ := [(2, Ty.ex (.int .i64 1)), (3, Ty.ex (.pointer (some ⟨g, 0, none⟩))), (5, Ty.at_ AskT [.int .i64 1, .int .i64 0, .int .u64 7]), (6, Ty.ex (.int .i64 5)), (7, Ty.ex (.int .i64 5)), (8, Ty.ex (.int .i64 1)), (9, Ty.at_ AskT [.int .i64 1, .int .i64 0, .int .u64 7]), (10, Ty.ex (.int .i64 0)), (11, Ty.at_ AskT [.int .i64 2, .int .i64 12, .int .u64 8]), (14, Ty.ex (.int .i64 10)), (15, Ty.at_ AskT [.int .i64 2, .int .i64 24, .int .u64 9]), (16, Ty.ex (.int .i64 1)), (21, Ty.at_ AskT [.int .i64 3, .int .i64 0, .int .u64 0]), (22, Ty.ex (.int .i64 11)), (23, Ty.ex (.int .i64 1))]) hF rfl rfl (by decide) rfl rfl (hF.getEx (s := 129) rfl) (seg_sl _ _ hv129) rfl hS c8.1 c8.2 hbd hbY (by simp) (hF.keep [2, 3, 5, 6, 7, 8, 9, 10, 11, 14, 15, 16, 21, 22, 23]) rfl fun a x76 t o hF hS hk => ?_
  replace hB := below_own hB hk (by intro y hy; simp only [List.mem_singleton] at hy; omega)
  clear hk
  refine' tlOp hF rfl rfl rfl ?_ ?_
  rotate_left
  · exact cAssign rfl rfl
  intro a x77 hF hb
  have hBs := hB.size
  replace hB := hB.trans (hb.mono hB.size)
  try (refine wpList_nil ?_)
  repeat with_reducible first | refine wp_seq ?_ | refine nThen ?_
  replace hS := hS.below hb
  have hT0 := hT.below hB
  have hB0 := hB
  have hw0 := hB.size
  replace hB := Below.refl x77.heap.size x77
  refine wp_region_lit ?_
  refine' tlOp hF rfl rfl rfl ?_ ?_
  rotate_left
  · exact cBuildE rfl (fun w => buildAsk0 w)
  intro a x78 hF hb
  have hBs := hB.size
  replace hB := hB.trans (hb.mono hB.size)
  try (refine wpList_nil ?_)
  refine' tlOp hF rfl rfl rfl ?_ ?_
  rotate_left
  · exact cCallT2 rfl (Has.c (.t rfl) nil_sumsK) (.t rfl) (hT0.below hB) enAnswer hA0
  intro a x79 hF hb
  have hBs := hB.size
  replace hB := hB.trans (hb.mono hB.size)
  try (refine wpList_nil ?_)
  refine' tlOp hF rfl rfl rfl ?_ ?_
  rotate_left
  · exact cMove rfl rfl
  intro a x80 hF hb
  have hBs := hB.size
  replace hB := hB.trans (hb.mono hB.size)
  try (refine wpList_nil ?_)
  refine' tlOp hF rfl rfl rfl ?_ ?_
  rotate_left
  · exact cExtract rfl rfl rfl
  intro a x81 hF hb
  have hBs := hB.size
  replace hB := hB.trans (hb.mono hB.size)
  try (refine wpList_nil ?_)
  refine' tlOp hF rfl rfl rfl ?_ ?_
  rotate_left
  · exact cExtract rfl rfl rfl
  intro a x82 hF hb
  have hBs := hB.size
  replace hB := hB.trans (hb.mono hB.size)
  try (refine wpList_nil ?_)
  refine' tlOp hF rfl rfl rfl ?_ ?_
  rotate_left
  · exact cExtract rfl rfl rfl
  intro a x83 hF hb
  have hBs := hB.size
  replace hB := hB.trans (hb.mono hB.size)
  try (refine wpList_nil ?_)
  refine' tlOp hF rfl rfl rfl ?_ ?_
  rotate_left
  · exact cExtract rfl rfl rfl
  intro a x84 hF hb
  have hBs := hB.size
  replace hB := hB.trans (hb.mono hB.size)
  try (refine wpList_nil ?_)
  obtain ⟨z, ⟨q1, rfl, hq1⟩, hF⟩ := hF.open (s := 137) rfl
  obtain ⟨z, ⟨q2, rfl, hq2⟩, hF⟩ := hF.open (s := 138) rfl
  have hq1 : (Ty.tabs 40 69 0 []).p x84 q1 := hq1
  have hq2 : (Ty.cls 69 []).p x84 q2 := hq2
  have hwA := hB.size
  refine' tlOp hF rfl rfl rfl ?_ ?_
  rotate_left
  · exact cAllocN rfl (run_alloc_i infoStA)
  intro a x85 hF hb
  have hBs := hB.size
  replace hB := hB.trans (hb.mono hB.size)
  try (refine wpList_nil ?_)
  obtain ⟨z, ⟨g6, rfl, hg6, hb6⟩, hF⟩ := hF.open (s := 25) rfl
  have hg6 : x84.heap.size ≤ g6 := hg6
  have hl6 := hb6.lt
  refine' tlOp hF rfl rfl rfl ?_ ?_
  rotate_left
  · exact cAllocN rfl (run_alloc_i infoT46)
  intro a x86 hF hb
  have hBs := hB.size
  replace hB := hB.trans (hb.mono hB.size)
  try (refine wpList_nil ?_)
  replace hb6 := hb6.below hb
  obtain ⟨z, ⟨g7, rfl, hg7, hb7⟩, hF⟩ := hF.open (s := 26) rfl
  have hg7 : x85.heap.size ≤ g7 := hg7
  have hne : g6 ≠ g7 := by omega
  refine tlStoreV (Δ := [(2, Ty.ex (.int .i64 1)), (3, Ty.ex (.pointer (some ⟨g, 0, none⟩))), (5, Ty.at_ AskT [.int .i64 1, .int .i64 0, .int .u64 7]), (6, Ty.ex (.int .i64 5)), (7, Ty.ex (.int .i64 5)), (8, Ty.ex (.int .i64 1)), (9, Ty.at_ AskT [.int .i64 1, .int .i64 0, .int .u64 7]), (10, Ty.ex (.int .i64 0)), (11, Ty.at_ AskT [.int .i64 2, .int .i64 12, .int .u64 8]), (14, Ty.ex (.int .i64 10)), (15, Ty.at_ AskT [.int .i64 2, .int .i64 24, .int .u64 9]), (16, Ty.ex (.int .i64 1)), (21, Ty.at_ AskT [.int .i64 3, .int .i64 0, .int .u64 0]), (22, Ty.ex (.int .i64 11)), (23, Ty.ex (.int .i64 1)), (24, Ty.ex (.int .i64 0)), (25, Ty.ex (.pointer (some ⟨g6, 0, none⟩))), (26, Ty.ex (.pointer (some ⟨g7, 0, none⟩))), (138, Ty.ex (.agg #[.int .u64 (0 : Nat), q2])), (139, Ty.sums 28 []), (140, Ty.ex (.int .i64 1))]) hF rfl rfl rfl rfl (hF.getEx (s := 137) rfl) hb6 rfl sizeStA (tabs_one hq1 0) (hF.keep [2, 3, 5, 6, 7, 8, 9, 10, 11, 14, 15, 16, 21, 22, 23, 24, 25, 26, 138, 139, 140]) rfl ?_
  intro x87 hF hb6n hkx
  replace hb7 := hb7.keeps hkx (by simpa using hne.symm)
  replace hB := below_own hB hkx (by intro y hy; simp only [List.mem_singleton] at hy; omega)
  clear hb6 hb6n hkx
  refine tlStoreV (Δ := [(2, Ty.ex (.int .i64 1)), (3, Ty.ex (.pointer (some ⟨g, 0, none⟩))), (5, Ty.at_ AskT [.int .i64 1, .int .i64 0, .int .u64 7]), (6, Ty.ex (.int .i64 5)), (7, Ty.ex (.int .i64 5)), (8, Ty.ex (.int .i64 1)), (9, Ty.at_ AskT [.int .i64 1, .int .i64 0, .int .u64 7]), (10, Ty.ex (.int .i64 0)), (11, Ty.at_ AskT [.int .i64 2, .int .i64 12, .int .u64 8]), (14, Ty.ex (.int .i64 10)), (15, Ty.at_ AskT [.int .i64 2, .int .i64 24, .int .u64 9]), (16, Ty.ex (.int .i64 1)), (21, Ty.at_ AskT [.int .i64 3, .int .i64 0, .int .u64 0]), (22, Ty.ex (.int .i64 11)), (23, Ty.ex (.int .i64 1)), (24, Ty.ex (.int .i64 0)), (139, Ty.sums 28 []), (140, Ty.ex (.int .i64 1))]) hF rfl rfl rfl rfl (hF.getEx (s := 138) rfl) hb7 rfl sizeT46 (sl_one hq2 0) (hF.keep [2, 3, 5, 6, 7, 8, 9, 10, 11, 14, 15, 16, 21, 22, 23, 24, 139, 140]) rfl ?_
  intro x88 hF hb7n hkx
  replace hB := below_own hB hkx (by intro y hy; simp only [List.mem_singleton] at hy; omega)
  clear hb7 hb7n hkx hq1 hq2 hne
  refine' tlOp hF rfl rfl rfl ?_ ?_
  rotate_left
  · exact cAssign rfl rfl
  intro a x89 hF hb
  have hBs := hB.size
  replace hB := hB.trans (hb.mono hB.size)
  try (refine wpList_nil ?_)
  refine' tlOp hF rfl rfl rfl ?_ ?_
  rotate_left
  · exact cAssign rfl rfl
  intro a x90 hF hb
  have hBs := hB.size
  replace hB := hB.trans (hb.mono hB.size)
  try (refine wpList_nil ?_)
  repeat with_reducible first | refine wp_seq ?_ | refine nThen ?_
  replace hS := hS.below hB
  replace hB := hB0.trans (hB.mono hw0)
  clear hB0 hw0 hT0 hwA
  have hT0 := hT.below hB
  have hB0 := hB
  have hw0 := hB.size
  replace hB := Below.refl x90.heap.size x90
  refine wp_region_lit ?_
  refine' tlOp hF rfl rfl rfl ?_ ?_
  rotate_left
  · exact cBuildN2 rfl rfl rfl (fun w => buildAsk01 _ _ w)
  intro a x91 hF hb
  have hBs := hB.size
  replace hB := hB.trans (hb.mono hB.size)
  try (refine wpList_nil ?_)
  refine' tlOp hF rfl rfl rfl ?_ ?_
  rotate_left
  · exact cCallT2 rfl (Has.c (.t rfl) nil_sumsK) (.t rfl) (hT0.below hB) enAnswer hA1
  intro a x92 hF hb
  have hBs := hB.size
  replace hB := hB.trans (hb.mono hB.size)
  try (refine wpList_nil ?_)
  refine' tlOp hF rfl rfl rfl ?_ ?_
  rotate_left
  · exact cMove rfl rfl
  intro a x93 hF hb
  have hBs := hB.size
  replace hB := hB.trans (hb.mono hB.size)
  try (refine wpList_nil ?_)
  refine' tlOp hF rfl rfl rfl ?_ ?_
  rotate_left
  · exact cExtract rfl rfl rfl
  intro a x94 hF hb
  have hBs := hB.size
  replace hB := hB.trans (hb.mono hB.size)
  try (refine wpList_nil ?_)
  refine' tlOp hF rfl rfl rfl ?_ ?_
  rotate_left
  · exact cExtract rfl rfl rfl
  intro a x95 hF hb
  have hBs := hB.size
  replace hB := hB.trans (hb.mono hB.size)
  try (refine wpList_nil ?_)
  refine' tlOp hF rfl rfl rfl ?_ ?_
  rotate_left
  · exact cExtract rfl rfl rfl
  intro a x96 hF hb
  have hBs := hB.size
  replace hB := hB.trans (hb.mono hB.size)
  try (refine wpList_nil ?_)
  refine' tlOp hF rfl rfl rfl ?_ ?_
  rotate_left
  · exact cExtract rfl rfl rfl
  intro a x97 hF hb
  have hBs := hB.size
  replace hB := hB.trans (hb.mono hB.size)
  try (refine wpList_nil ?_)
  obtain ⟨z, ⟨q1, rfl, hq1⟩, hF⟩ := hF.open (s := 144) rfl
  obtain ⟨z, ⟨q2, rfl, hq2⟩, hF⟩ := hF.open (s := 145) rfl
  have hq1 : (Ty.tabs 40 69 0 []).p x97 q1 := hq1
  have hq2 : (Ty.cls 69 []).p x97 q2 := hq2
  have hwA := hB.size
  refine' tlOp hF rfl rfl rfl ?_ ?_
  rotate_left
  · exact cAllocN rfl (run_alloc_i infoStA)
  intro a x98 hF hb
  have hBs := hB.size
  replace hB := hB.trans (hb.mono hB.size)
  try (refine wpList_nil ?_)
  obtain ⟨z, ⟨g6, rfl, hg6, hb6⟩, hF⟩ := hF.open (s := 29) rfl
  have hg6 : x97.heap.size ≤ g6 := hg6
  have hl6 := hb6.lt
  refine' tlOp hF rfl rfl rfl ?_ ?_
  rotate_left
  · exact cAllocN rfl (run_alloc_i infoT46)
  intro a x99 hF hb
  have hBs := hB.size
  replace hB := hB.trans (hb.mono hB.size)
  try (refine wpList_nil ?_)
  replace hb6 := hb6.below hb
  obtain ⟨z, ⟨g7, rfl, hg7, hb7⟩, hF⟩ := hF.open (s := 30) rfl
  have hg7 : x98.heap.size ≤ g7 := hg7
  have hne : g6 ≠ g7 := by omega
  refine tlStoreV (Δ := [(2, Ty.ex (.int .i64 1)), (3, Ty.ex (.pointer (some ⟨g, 0, none⟩))), (5, Ty.at_ AskT [.int .i64 1, .int .i64 0, .int .u64 7]), (6, Ty.ex (.int .i64 5)), (7, Ty.ex (.int .i64 5)), (8, Ty.ex (.int .i64 1)), (9, Ty.at_ AskT [.int .i64 1, .int .i64 0, .int .u64 7]), (10, Ty.ex (.int .i64 0)), (11, Ty.at_ AskT [.int .i64 2, .int .i64 12, .int .u64 8]), (14, Ty.ex (.int .i64 10)), (15, Ty.at_ AskT [.int .i64 2, .int .i64 24, .int .u64 9]), (16, Ty.ex (.int .i64 1)), (21, Ty.at_ AskT [.int .i64 3, .int .i64 0, .int .u64 0]), (22, Ty.ex (.int .i64 11)), (23, Ty.ex (.int .i64 1)), (24, Ty.ex (.int .i64 0)), (28, Ty.ex (.int .i64 1)), (29, Ty.ex (.pointer (some ⟨g6, 0, none⟩))), (30, Ty.ex (.pointer (some ⟨g7, 0, none⟩))), (145, Ty.ex (.agg #[.int .u64 (0 : Nat), q2])), (146, Ty.sums 28 []), (147, Ty.ex (.int .i64 1))]) hF rfl rfl rfl rfl (hF.getEx (s := 144) rfl) hb6 rfl sizeStA (tabs_one hq1 0) (hF.keep [2, 3, 5, 6, 7, 8, 9, 10, 11, 14, 15, 16, 21, 22, 23, 24, 28, 29, 30, 145, 146, 147]) rfl ?_
  intro x100 hF hb6n hkx
  replace hb7 := hb7.keeps hkx (by simpa using hne.symm)
  replace hB := below_own hB hkx (by intro y hy; simp only [List.mem_singleton] at hy; omega)
  clear hb6 hb6n hkx
  refine tlStoreV (Δ := [(2, Ty.ex (.int .i64 1)), (3, Ty.ex (.pointer (some ⟨g, 0, none⟩))), (5, Ty.at_ AskT [.int .i64 1, .int .i64 0, .int .u64 7]), (6, Ty.ex (.int .i64 5)), (7, Ty.ex (.int .i64 5)), (8, Ty.ex (.int .i64 1)), (9, Ty.at_ AskT [.int .i64 1, .int .i64 0, .int .u64 7]), (10, Ty.ex (.int .i64 0)), (11, Ty.at_ AskT [.int .i64 2, .int .i64 12, .int .u64 8]), (14, Ty.ex (.int .i64 10)), (15, Ty.at_ AskT [.int .i64 2, .int .i64 24, .int .u64 9]), (16, Ty.ex (.int .i64 1)), (21, Ty.at_ AskT [.int .i64 3, .int .i64 0, .int .u64 0]), (22, Ty.ex (.int .i64 11)), (23, Ty.ex (.int .i64 1)), (24, Ty.ex (.int .i64 0)), (28, Ty.ex (.int .i64 1)), (146, Ty.sums 28 []), (147, Ty.ex (.int .i64 1))]) hF rfl rfl rfl rfl (hF.getEx (s := 145) rfl) hb7 rfl sizeT46 (sl_one hq2 0) (hF.keep [2, 3, 5, 6, 7, 8, 9, 10, 11, 14, 15, 16, 21, 22, 23, 24, 28, 146, 147]) rfl ?_
  intro x101 hF hb7n hkx
  replace hB := below_own hB hkx (by intro y hy; simp only [List.mem_singleton] at hy; omega)
  clear hb7 hb7n hkx hq1 hq2 hne
  refine' tlOp hF rfl rfl rfl ?_ ?_
  rotate_left
  · exact cAssign rfl rfl
  intro a x102 hF hb
  have hBs := hB.size
  replace hB := hB.trans (hb.mono hB.size)
  try (refine wpList_nil ?_)
  refine' tlOp hF rfl rfl rfl ?_ ?_
  rotate_left
  · exact cAssign rfl rfl
  intro a x103 hF hb
  have hBs := hB.size
  replace hB := hB.trans (hb.mono hB.size)
  try (refine wpList_nil ?_)
  repeat with_reducible first | refine wp_seq ?_ | refine nThen ?_
  replace hS := hS.below hB
  replace hB := hB0.trans (hB.mono hw0)
  clear hB0 hw0 hT0 hwA
  have hT0 := hT.below hB
  have hB0 := hB
  have hw0 := hB.size
  replace hB := Below.refl x103.heap.size x103
  refine wp_region_lit ?_
  refine' tlOp hF rfl rfl rfl ?_ ?_
  rotate_left
  · exact cBuildC rfl (fun w => buildAsk1 _ w)
  intro a x104 hF hb
  have hBs := hB.size
  replace hB := hB.trans (hb.mono hB.size)
  try (refine wpList_nil ?_)
  refine' tlOp hF rfl rfl rfl ?_ ?_
  rotate_left
  · exact cCallT2 rfl (Has.c (.t rfl) nil_sumsK) (.t rfl) (hT0.below hB) enAnswer hA2
  intro a x105 hF hb
  have hBs := hB.size
  replace hB := hB.trans (hb.mono hB.size)
  try (refine wpList_nil ?_)
  refine' tlOp hF rfl rfl rfl ?_ ?_
  rotate_left
  · exact cMove rfl rfl
  intro a x106 hF hb
  have hBs := hB.size
  replace hB := hB.trans (hb.mono hB.size)
  try (refine wpList_nil ?_)
  refine' tlOp hF rfl rfl rfl ?_ ?_
  rotate_left
  · exact cExtract rfl rfl rfl
  intro a x107 hF hb
  have hBs := hB.size
  replace hB := hB.trans (hb.mono hB.size)
  try (refine wpList_nil ?_)
  refine' tlOp hF rfl rfl rfl ?_ ?_
  rotate_left
  · exact cExtract rfl rfl rfl
  intro a x108 hF hb
  have hBs := hB.size
  replace hB := hB.trans (hb.mono hB.size)
  try (refine wpList_nil ?_)
  refine' tlOp hF rfl rfl rfl ?_ ?_
  rotate_left
  · exact cExtract rfl rfl rfl
  intro a x109 hF hb
  have hBs := hB.size
  replace hB := hB.trans (hb.mono hB.size)
  try (refine wpList_nil ?_)
  refine' tlOp hF rfl rfl rfl ?_ ?_
  rotate_left
  · exact cExtract rfl rfl rfl
  intro a x110 hF hb
  have hBs := hB.size
  replace hB := hB.trans (hb.mono hB.size)
  try (refine wpList_nil ?_)
  obtain ⟨z, ⟨q1, rfl, hq1⟩, hF⟩ := hF.open (s := 151) rfl
  obtain ⟨z, ⟨q2, rfl, hq2⟩, hF⟩ := hF.open (s := 152) rfl
  have hq1 : (Ty.tabs 40 69 0 []).p x110 q1 := hq1
  have hq2 : (Ty.cls 69 []).p x110 q2 := hq2
  have hwA := hB.size
  refine' tlOp hF rfl rfl rfl ?_ ?_
  rotate_left
  · exact cAllocN rfl (run_alloc_i infoStA)
  intro a x111 hF hb
  have hBs := hB.size
  replace hB := hB.trans (hb.mono hB.size)
  try (refine wpList_nil ?_)
  obtain ⟨z, ⟨g6, rfl, hg6, hb6⟩, hF⟩ := hF.open (s := 33) rfl
  have hg6 : x110.heap.size ≤ g6 := hg6
  have hl6 := hb6.lt
  refine' tlOp hF rfl rfl rfl ?_ ?_
  rotate_left
  · exact cAllocN rfl (run_alloc_i infoT46)
  intro a x112 hF hb
  have hBs := hB.size
  replace hB := hB.trans (hb.mono hB.size)
  try (refine wpList_nil ?_)
  replace hb6 := hb6.below hb
  obtain ⟨z, ⟨g7, rfl, hg7, hb7⟩, hF⟩ := hF.open (s := 34) rfl
  have hg7 : x111.heap.size ≤ g7 := hg7
  have hne : g6 ≠ g7 := by omega
  refine tlStoreV (Δ := [(2, Ty.ex (.int .i64 1)), (3, Ty.ex (.pointer (some ⟨g, 0, none⟩))), (5, Ty.at_ AskT [.int .i64 1, .int .i64 0, .int .u64 7]), (6, Ty.ex (.int .i64 5)), (7, Ty.ex (.int .i64 5)), (8, Ty.ex (.int .i64 1)), (9, Ty.at_ AskT [.int .i64 1, .int .i64 0, .int .u64 7]), (10, Ty.ex (.int .i64 0)), (11, Ty.at_ AskT [.int .i64 2, .int .i64 12, .int .u64 8]), (14, Ty.ex (.int .i64 10)), (15, Ty.at_ AskT [.int .i64 2, .int .i64 24, .int .u64 9]), (16, Ty.ex (.int .i64 1)), (21, Ty.at_ AskT [.int .i64 3, .int .i64 0, .int .u64 0]), (22, Ty.ex (.int .i64 11)), (23, Ty.ex (.int .i64 1)), (24, Ty.ex (.int .i64 0)), (28, Ty.ex (.int .i64 1)), (32, Ty.ex (.int .i64 1)), (33, Ty.ex (.pointer (some ⟨g6, 0, none⟩))), (34, Ty.ex (.pointer (some ⟨g7, 0, none⟩))), (152, Ty.ex (.agg #[.int .u64 (0 : Nat), q2])), (153, Ty.sums 28 []), (154, Ty.ex (.int .i64 1))]) hF rfl rfl rfl rfl (hF.getEx (s := 151) rfl) hb6 rfl sizeStA (tabs_one hq1 0) (hF.keep [2, 3, 5, 6, 7, 8, 9, 10, 11, 14, 15, 16, 21, 22, 23, 24, 28, 32, 33, 34, 152, 153, 154]) rfl ?_
  intro x113 hF hb6n hkx
  replace hb7 := hb7.keeps hkx (by simpa using hne.symm)
  replace hB := below_own hB hkx (by intro y hy; simp only [List.mem_singleton] at hy; omega)
  clear hb6 hb6n hkx
  refine tlStoreV (Δ := [(2, Ty.ex (.int .i64 1)), (3, Ty.ex (.pointer (some ⟨g, 0, none⟩))), (5, Ty.at_ AskT [.int .i64 1, .int .i64 0, .int .u64 7]), (6, Ty.ex (.int .i64 5)), (7, Ty.ex (.int .i64 5)), (8, Ty.ex (.int .i64 1)), (9, Ty.at_ AskT [.int .i64 1, .int .i64 0, .int .u64 7]), (10, Ty.ex (.int .i64 0)), (11, Ty.at_ AskT [.int .i64 2, .int .i64 12, .int .u64 8]), (14, Ty.ex (.int .i64 10)), (15, Ty.at_ AskT [.int .i64 2, .int .i64 24, .int .u64 9]), (16, Ty.ex (.int .i64 1)), (21, Ty.at_ AskT [.int .i64 3, .int .i64 0, .int .u64 0]), (22, Ty.ex (.int .i64 11)), (23, Ty.ex (.int .i64 1)), (24, Ty.ex (.int .i64 0)), (28, Ty.ex (.int .i64 1)), (32, Ty.ex (.int .i64 1)), (153, Ty.sums 28 []), (154, Ty.ex (.int .i64 1))]) hF rfl rfl rfl rfl (hF.getEx (s := 152) rfl) hb7 rfl sizeT46 (sl_one hq2 0) (hF.keep [2, 3, 5, 6, 7, 8, 9, 10, 11, 14, 15, 16, 21, 22, 23, 24, 28, 32, 153, 154]) rfl ?_
  intro x114 hF hb7n hkx
  replace hB := below_own hB hkx (by intro y hy; simp only [List.mem_singleton] at hy; omega)
  clear hb7 hb7n hkx hq1 hq2 hne
  refine' tlOp hF rfl rfl rfl ?_ ?_
  rotate_left
  · exact cAssign rfl rfl
  intro a x115 hF hb
  have hBs := hB.size
  replace hB := hB.trans (hb.mono hB.size)
  try (refine wpList_nil ?_)
  refine' tlOp hF rfl rfl rfl ?_ ?_
  rotate_left
  · exact cAssign rfl rfl
  intro a x116 hF hb
  have hBs := hB.size
  replace hB := hB.trans (hb.mono hB.size)
  try (refine wpList_nil ?_)
  repeat with_reducible first | refine wp_seq ?_ | refine nThen ?_
  replace hS := hS.below hB
  replace hB := hB0.trans (hB.mono hw0)
  clear hB0 hw0 hT0 hwA
  have hT0 := hT.below hB
  have hB0 := hB
  have hw0 := hB.size
  replace hB := Below.refl x116.heap.size x116
  refine wp_region_lit ?_
  refine' tlOp hF rfl rfl rfl ?_ ?_
  rotate_left
  · exact cBuildC rfl build_s2
  intro a x117 hF hb
  have hBs := hB.size
  replace hB := hB.trans (hb.mono hB.size)
  try (refine wpList_nil ?_)
  refine' tlOp hF rfl rfl rfl ?_ ?_
  rotate_left
  · exact cBuildC rfl build_s1
  intro a x118 hF hb
  have hBs := hB.size
  replace hB := hB.trans (hb.mono hB.size)
  try (refine wpList_nil ?_)
  refine' tlOp hF rfl rfl rfl ?_ ?_
  rotate_left
  · exact cBuildSums [s2, s1] rfl (parts2v rfl rfl rfl) Tryz.underlying30 infoS rfl
  intro a x119 hF hb
  have hBs := hB.size
  replace hB := hB.trans (hb.mono hB.size)
  try (refine wpList_nil ?_)
  refine' tlOp hF rfl rfl rfl ?_ ?_
  rotate_left
  · exact cBuildC rfl (fun w => buildAsk1 _ w)
  intro a x120 hF hb
  have hBs := hB.size
  replace hB := hB.trans (hb.mono hB.size)
  try (refine wpList_nil ?_)
  refine' tlOp hF rfl rfl rfl ?_ ?_
  rotate_left
  · exact cCallT2 rfl (.t rfl) (.t rfl) (hT0.below hB) enAnswer hA3
  intro a x121 hF hb
  have hBs := hB.size
  replace hB := hB.trans (hb.mono hB.size)
  try (refine wpList_nil ?_)
  refine' tlOp hF rfl rfl rfl ?_ ?_
  rotate_left
  · exact cMove rfl rfl
  intro a x122 hF hb
  have hBs := hB.size
  replace hB := hB.trans (hb.mono hB.size)
  try (refine wpList_nil ?_)
  refine' tlOp hF rfl rfl rfl ?_ ?_
  rotate_left
  · exact cExtract rfl rfl rfl
  intro a x123 hF hb
  have hBs := hB.size
  replace hB := hB.trans (hb.mono hB.size)
  try (refine wpList_nil ?_)
  refine' tlOp hF rfl rfl rfl ?_ ?_
  rotate_left
  · exact cExtract rfl rfl rfl
  intro a x124 hF hb
  have hBs := hB.size
  replace hB := hB.trans (hb.mono hB.size)
  try (refine wpList_nil ?_)
  refine' tlOp hF rfl rfl rfl ?_ ?_
  rotate_left
  · exact cExtract rfl rfl rfl
  intro a x125 hF hb
  have hBs := hB.size
  replace hB := hB.trans (hb.mono hB.size)
  try (refine wpList_nil ?_)
  refine' tlOp hF rfl rfl rfl ?_ ?_
  rotate_left
  · exact cExtract rfl rfl rfl
  intro a x126 hF hb
  have hBs := hB.size
  replace hB := hB.trans (hb.mono hB.size)
  try (refine wpList_nil ?_)
  obtain ⟨z, ⟨q1, rfl, hq1⟩, hF⟩ := hF.open (s := 161) rfl
  obtain ⟨z, ⟨q2, rfl, hq2⟩, hF⟩ := hF.open (s := 162) rfl
  have hq1 : (Ty.tabs 40 69 0 []).p x126 q1 := hq1
  have hq2 : (Ty.cls 69 []).p x126 q2 := hq2
  have hwA := hB.size
  refine' tlOp hF rfl rfl rfl ?_ ?_
  rotate_left
  · exact cAllocN rfl (run_alloc_i infoStA)
  intro a x127 hF hb
  have hBs := hB.size
  replace hB := hB.trans (hb.mono hB.size)
  try (refine wpList_nil ?_)
  obtain ⟨z, ⟨g6, rfl, hg6, hb6⟩, hF⟩ := hF.open (s := 37) rfl
  have hg6 : x126.heap.size ≤ g6 := hg6
  have hl6 := hb6.lt
  refine' tlOp hF rfl rfl rfl ?_ ?_
  rotate_left
  · exact cAllocN rfl (run_alloc_i infoT46)
  intro a x128 hF hb
  have hBs := hB.size
  replace hB := hB.trans (hb.mono hB.size)
  try (refine wpList_nil ?_)
  replace hb6 := hb6.below hb
  obtain ⟨z, ⟨g7, rfl, hg7, hb7⟩, hF⟩ := hF.open (s := 38) rfl
  have hg7 : x127.heap.size ≤ g7 := hg7
  have hne : g6 ≠ g7 := by omega
  refine tlStoreV (Δ := [(2, Ty.ex (.int .i64 1)), (3, Ty.ex (.pointer (some ⟨g, 0, none⟩))), (5, Ty.at_ AskT [.int .i64 1, .int .i64 0, .int .u64 7]), (6, Ty.ex (.int .i64 5)), (7, Ty.ex (.int .i64 5)), (8, Ty.ex (.int .i64 1)), (9, Ty.at_ AskT [.int .i64 1, .int .i64 0, .int .u64 7]), (10, Ty.ex (.int .i64 0)), (11, Ty.at_ AskT [.int .i64 2, .int .i64 12, .int .u64 8]), (14, Ty.ex (.int .i64 10)), (15, Ty.at_ AskT [.int .i64 2, .int .i64 24, .int .u64 9]), (16, Ty.ex (.int .i64 1)), (21, Ty.at_ AskT [.int .i64 3, .int .i64 0, .int .u64 0]), (22, Ty.ex (.int .i64 11)), (23, Ty.ex (.int .i64 1)), (24, Ty.ex (.int .i64 0)), (28, Ty.ex (.int .i64 1)), (32, Ty.ex (.int .i64 1)), (36, Ty.ex (.int .i64 1)), (37, Ty.ex (.pointer (some ⟨g6, 0, none⟩))), (38, Ty.ex (.pointer (some ⟨g7, 0, none⟩))), (162, Ty.ex (.agg #[.int .u64 (0 : Nat), q2])), (163, Ty.sums 28 []), (164, Ty.ex (.int .i64 1))]) hF rfl rfl rfl rfl (hF.getEx (s := 161) rfl) hb6 rfl sizeStA (tabs_one hq1 0) (hF.keep [2, 3, 5, 6, 7, 8, 9, 10, 11, 14, 15, 16, 21, 22, 23, 24, 28, 32, 36, 37, 38, 162, 163, 164]) rfl ?_
  intro x129 hF hb6n hkx
  replace hb7 := hb7.keeps hkx (by simpa using hne.symm)
  replace hB := below_own hB hkx (by intro y hy; simp only [List.mem_singleton] at hy; omega)
  clear hb6 hb6n hkx
  refine tlStoreV (Δ := [(2, Ty.ex (.int .i64 1)), (3, Ty.ex (.pointer (some ⟨g, 0, none⟩))), (5, Ty.at_ AskT [.int .i64 1, .int .i64 0, .int .u64 7]), (6, Ty.ex (.int .i64 5)), (7, Ty.ex (.int .i64 5)), (8, Ty.ex (.int .i64 1)), (9, Ty.at_ AskT [.int .i64 1, .int .i64 0, .int .u64 7]), (10, Ty.ex (.int .i64 0)), (11, Ty.at_ AskT [.int .i64 2, .int .i64 12, .int .u64 8]), (14, Ty.ex (.int .i64 10)), (15, Ty.at_ AskT [.int .i64 2, .int .i64 24, .int .u64 9]), (16, Ty.ex (.int .i64 1)), (21, Ty.at_ AskT [.int .i64 3, .int .i64 0, .int .u64 0]), (22, Ty.ex (.int .i64 11)), (23, Ty.ex (.int .i64 1)), (24, Ty.ex (.int .i64 0)), (28, Ty.ex (.int .i64 1)), (32, Ty.ex (.int .i64 1)), (36, Ty.ex (.int .i64 1)), (163, Ty.sums 28 []), (164, Ty.ex (.int .i64 1))]) hF rfl rfl rfl rfl (hF.getEx (s := 162) rfl) hb7 rfl sizeT46 (sl_one hq2 0) (hF.keep [2, 3, 5, 6, 7, 8, 9, 10, 11, 14, 15, 16, 21, 22, 23, 24, 28, 32, 36, 163, 164]) rfl ?_
  intro x130 hF hb7n hkx
  replace hB := below_own hB hkx (by intro y hy; simp only [List.mem_singleton] at hy; omega)
  clear hb7 hb7n hkx hq1 hq2 hne
  refine' tlOp hF rfl rfl rfl ?_ ?_
  rotate_left
  · exact cAssign rfl rfl
  intro a x131 hF hb
  have hBs := hB.size
  replace hB := hB.trans (hb.mono hB.size)
  try (refine wpList_nil ?_)
  refine' tlOp hF rfl rfl rfl ?_ ?_
  rotate_left
  · exact cAssign rfl rfl
  intro a x132 hF hb
  have hBs := hB.size
  replace hB := hB.trans (hb.mono hB.size)
  try (refine wpList_nil ?_)
  repeat with_reducible first | refine wp_seq ?_ | refine nThen ?_
  replace hS := hS.below hB
  replace hB := hB0.trans (hB.mono hw0)
  clear hB0 hw0 hT0 hwA
  have hlT : (Sd.mk M 0 0 0 [fewS 1] [fewS 3] 11).theirs.length ≤ 1000000 := by simp
  have q1 := same_ty [fewS 1] [fewS 1] (by simp) (by simp)
  rw [same_one] at q1
  refine' reg_all hF ?_ mixed (by kernel_rfl) ?_
  rotate_left
  · repeat (first | exact Line.nil | ((first | refine' Line.cons rfl (.run rfl rfl ?_) ?_ | refine' Line.cons rfl (.yes rfl rfl rfl rfl ?_) ?_); (any_goals (first | exact cMove rfl rfl | exact cAssign rfl rfl | exact OpOk.b (c := true) (cEql rfl rfl rfl) rfl | exact cLdAsk rfl (.t rfl) | exact cBuildN2 rfl rfl rfl (fun w => buildAsk12 _ _ w) | exact cBuildN3 rfl rfl rfl rfl (fun w => buildAsk3 _ _ _ w) | exact cBuildC rfl (fun w => buildAsk1 _ w) | exact cBuildE rfl (fun w => buildAsk0 w) | exact cEqlAgg rfl rfl rfl guardAsk (eqAsk _ _ _) | exact cCallX1 rfl rfl enDone (fun W hb => done_ret (hS.below hb)) | exact cCallX1 rfl rfl enRounds (fun W hb => rounds_ret (hS.below hb)) | exact cCallX1 rfl rfl enTheirs (fun W hb => theirs_ret (hS.below hb) hlT) | exact cCallX1 rfl rfl enAsk (fun W hb => ask_ret (hS.below hb)) | exact cBuildV (vs := [ivz 1]) rfl (parts1v rfl rfl) Tryz.underlying33 infoInt rfl (by simp [Value.cells, ivz]) (by decide) (by simp [maxLen]) | exact cCallS1 rfl (.t rfl) f1 | exact cCallH2 rfl (.t rfl) (Has.c (.t rfl) seg_sl) q1 | exact cPickT rfl rfl rfl)); rotate_left))
  intro a z1 hF hb hN
  have hBs := hB.size
  replace hB := hB.trans (hb.mono hB.size)
  dsimp only [ext, Option.getD] at hF
  repeat with_reducible first | refine nThen ?_ | refine wp_ret ?_
  refine ret1 hF rfl rfl fun z hz => ?_
  exact ⟨by rw [show z = .bool true from hz], hB⟩
end Go.Proofs.YtmefpnklgfhggaaGreatDoor

/- From a row's reading of an argument to what a walk takes: slices of bytes; whole numbers. -/
namespace Go.Proofs.YtmefpnklgfhggaaGreatDoor
open Go.RowKit Go.ChangeShapes Go.WideShapes

end Go.Proofs.YtmefpnklgfhggaaGreatDoor

/- From a row's reading of an argument to what a walk takes: whole numbers in a slice; sums of thirty-two bytes. -/
namespace Go.Proofs.YtmefpnklgfhggaaGreatDoor
open Go.RowKit Go.ChangeShapes Go.WideShapes

end Go.Proofs.YtmefpnklgfhggaaGreatDoor

/- The statement ReconKnownSaid is proved here: for every input the law tallyman/tallymanlaw18.ReconKnown returns true, and each argument reads as before; the library's table reads as its initialiser lays it. (the examples answer as told.) -/
namespace Go.Proofs.YtmefpnklgfhggaaGreatDoor.reconKnown
open Go.ChangeShapes Go.WideShapes Go.ChangeAt Go.RowKit
set_option linter.unusedVariables false
theorem own : ownKnob Tryz.prog.godebug = none := by kernel_rfl
theorem gT : Tryz.prog.globalNamed "math/bits.deBruijn64tab" = some 0 := by kernel_rfl
theorem gTType : (Tryz.prog.globals[0]?).map (·.type) = some 183 := by kernel_rfl
theorem cellsE : Tryz.prog.cellsOf 5 = 1 := by kernel_rfl
theorem cellsT : Tryz.prog.cellsOf 183 = 64 := by kernel_rfl
def tabZ : List Int := Lib.deBruijn64tab.map Int.ofNat
noncomputable def laidWorld (os : Os) : World :=
  { World.holding Tryz.prog os ⟨#[], #[], []⟩ with heap := (World.holding Tryz.prog os ⟨#[], #[], []⟩).heap.modify 0 fun
      | .cells _ t frozen => .cells (tabZ.map fun z => Value.int .u8 z).toArray t frozen
      | o => o }
theorem laid_met (os : Os) (args : Array Value) : laidMet Tryz.prog Rows.reconKnownRow.laid ((laidWorld os).forCall (fun _ _ => 0) ⟨#[], args, []⟩).memory :=
  laidMet_of_run' 8 (by kernel_rfl) (by kernel_rfl)
theorem witness_row (os : Os) {H : Type} (enc : TypeId × Value → H) :
    (OpenSpec.ofChange Rows.reconKnownSpec).preRow enc Tryz.prog Tryz.f3 Rows.reconKnownRow.domain false Rows.reconKnownRow.laid ((laidWorld os).forCall (fun _ _ => 0) ⟨#[], #[], []⟩).memory #[] := by
  have hw : (DataW.whole enc Tryz.prog ((laidWorld os).forCall (fun _ _ => 0) ⟨#[], #[], []⟩).memory Tryz.f3.params.toList (OpenSpec.ofChange Rows.reconKnownSpec).vars false (#[] : Array Value).toList 8).map (fun x => (x.1, x.2.1)) =
      some ([], []) := by kernel_rfl
  obtain ⟨⟨x1, x2, x3⟩, hx, hx1⟩ := Option.map_eq_some_iff.1 hw
  simp only [Prod.mk.injEq] at hx1
  obtain ⟨rfl, rfl⟩ := hx1
  exact OpenSpec.preRow_of_cond 8 hx (by kernel_rfl) (fun k hk => by cases hk) (by kernel_rfl) (laid_met os _)
theorem tab_ok {W : World} (h : Lib.TabIs Tryz.prog W "math/bits.deBruijn64tab" .u8 tabZ) : TabOk W := by
  refine ⟨⟨0, 0, none⟩, rfl, fun j v hv => ?_, by simp [Lib.deBruijn64tab]⟩
  have hj : j < Lib.deBruijn64tab.length := by have := (List.getElem?_eq_some_iff.1 hv).1; rwa [List.length_map] at this
  have hc := h.cell gT j (by unfold tabZ; rw [List.length_map]; exact hj)
  refine ⟨_, rfl, ?_⟩
  rw [show (⟨0, 0, none⟩ : Addr).add j = ⟨0, j, none⟩ by simp [Addr.add_lit], hc]
  rw [← hv]
  unfold tabZ
  generalize Lib.deBruijn64tab = L at *
  simp [List.getD, List.getElem?_eq_getElem hj, bv]
set_option maxRecDepth 100000 in
set_option maxHeartbeats 2000000 in
theorem lifted (os : Os) (started : os.Started) (H : Type) (enc : TypeId × Value → H) (F : Stop.Interp) :
    ReturnsInHanded {} Tryz.checked os 3 .any ((OpenSpec.ofChange Rows.reconKnownSpec).preRow enc Tryz.prog Tryz.f3 Rows.reconKnownRow.domain false Rows.reconKnownRow.laid) (((OpenSpec.ofChange Rows.reconKnownSpec).at F).post enc Tryz.prog Tryz.f3 false true false false) := by
  refine returnsInHanded_of_row (C := Tryz.checked) (s := OpenSpec.ofChange Rows.reconKnownSpec) own started (by kernel_rfl) Tryz.func3
    (witness_row_at (enc := enc) (C := Tryz.checked) false (laidWorld os) #[] rfl (by kernel_rfl) (by kernel_rfl) (by kernel_rfl) (witness_row os enc)) ?_
  intro W base args ds gs before hval0 hW _ hcond0 hsz0 hL hsh _
  have hval : ∀ (j : Nat) t v, Tryz.f3.params[j]? = some t → args[j]? = some v → Value.okWide Tryz.prog W .any base t v := hval0
  have hW' := hW
  obtain ⟨p, q, hA0, hV, rfl, _, _⟩ := hW
  have hA : DataW.TrodAll enc Tryz.prog W 0 (fun _ => true) true Tryz.f3.params.toList args.toList ds p := hA0
  rw [Tryz.params3] at hA hval
  obtain ⟨hargs, rfl, rfl⟩ := trodAll_nil hA
  obtain rfl : args = #[] := by cases args; simp_all
  obtain ⟨rfl, rfl⟩ := trodVars_none hV
  have htab : Lib.TabIs Tryz.prog W "math/bits.deBruijn64tab" .u8 tabZ := Lib.tabIs_of_head gT gTType Tryz.underlying183 Tryz.underlying5 cellsE cellsT hL
  clear hA0 hval0 hsz0
  refine (lawReconKnown_any (tab_ok htab)).mono fun e W' ⟨he, bel⟩ => ?_
  subst he
  exact ⟨_, rfl, _, _, _, [], _, [], hW', trodAll_mk1 (shut_bool Tryz.underlying4 _), trodAll_mk0, rfl, bel.frame _, fun h => by cases h⟩
theorem over : Rows.reconKnownRow.holds Tryz.pinned (OpenSpec.ofChange Rows.reconKnownSpec) :=
  OpenClaim.holds_of_cond 3 Tryz.f3 rfl rfl rfl rfl rfl rfl rfl ⟨rfl, rfl, rfl, rfl, rfl⟩ rfl rfl rfl rfl rfl (by kernel_rfl) Tryz.func3 (by kernel_rfl)
    (of_decide_eq_true (by kernel_rfl)) (by unfold Func.isWrapper; first | (rw [if_pos (by decide +kernel)]; kernel_rfl) | (rw [if_neg (by decide +kernel)]; exact ⟨rfl, rfl⟩))
    (fun os started H enc _ F0 => by rw [OpenClaim.pre_eq_preRow]; exact lifted os started H enc F0)
end Go.Proofs.YtmefpnklgfhggaaGreatDoor.reconKnown
namespace Go.Proofs.YtmefpnklgfhggaaGreatDoor
theorem reconKnown_holds : Rows.ReconKnownSaid := reconKnown.over
#print axioms reconKnown_holds
end Go.Proofs.YtmefpnklgfhggaaGreatDoor
