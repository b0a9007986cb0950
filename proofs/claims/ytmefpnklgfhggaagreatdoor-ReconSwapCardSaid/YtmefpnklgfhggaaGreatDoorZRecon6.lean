/- Joined: ReconP, ReconF, Row, Row2. -/
import Derived.ProofKit
import Derived.OpenShut
import Derived.ShutString
import Derived.ChangeOld
import Derived.SizedLaws
import Derived.ChangeSlices
import Derived.Carry
import Derived.Test.YtmefpnklgfhggaaGreatDoorZRecon5
/- Recon, plainly: what one side comes to know. -/
namespace Go.Proofs.YtmefpnklgfhggaaGreatDoor
open Go.RowKit

def rN (n : Int) : Nat := if 1023 ≤ n then 1 else if 512 ≤ n then 2 else if 256 ≤ n then 3 else if 128 ≤ n then 4 else if 64 ≤ n then 5 else if 32 ≤ n then 6 else if 16 ≤ n then 7 else 8
theorem rN_le (n : Int) : 1 ≤ rN n ∧ rN n ≤ 8 := by
  unfold rN
  repeat' split
  all_goals omega
theorem rN_next {n : Int} (h : 12 ≤ n) (h2 : ¬ n = 1023) (h3 : n ≤ 1023) : rN (min (2 * n) 1023) + 1 ≤ rN n := by
  unfold rN
  repeat' split
  all_goals omega
theorem goodN_next {n : Int} (h : goodN n = true) : goodN (min (2 * n) 1023) = true := by
  unfold goodN at *
  have h := of_decide_eq_true h
  exact decide_eq_true (by omega)
/-- How many more answers there can be. -/
def Sd.mu (s : Sd) : Nat := if s.kind = 1 then 10 else if s.kind = 2 then rN s.n + 1 else if s.kind = 3 then 1 else 0
/-- What is told when it is known. -/
structure SFin (s : Sd) (Y : List Sm) : Prop where
  srtT : srt s.theirs
  srtO : srt s.ours
  out : ∀ z ∈ s.theirs, z ∉ s.mine
  inn : ∀ z ∈ s.ours, z ∈ s.mine
  tell : tellS (setL (minusL s.mine s.ours ++ s.theirs)) = tellS Y
structure Sd.Inv (s : Sd) (M Y : List Sm) : Prop where
  mine : s.mine = M
  seed : s.seed < 18446744073709551616
  n0 : 0 ≤ s.n
  n1 : s.n ≤ 1023
  rounds : s.rounds + s.mu ≤ 10
  lenT : s.theirs.length ≤ 1025
  lenO : s.ours.length ≤ 1025
  kind : s.kind = 1 ∨ (s.kind = 2 ∧ goodN s.n = true ∧ 12 ≤ s.n) ∨ s.kind = 3 ∨ (s.kind = 0 ∧ SFin s Y)
theorem Sd.Inv.wants {s : Sd} {M Y : List Sm} (h : s.Inv M Y) (hk : ¬ s.kind = 0) : s.Wants := by
  rcases h.kind with k | ⟨k, k2, _⟩ | k | ⟨k, _⟩
  · exact .inl k
  · exact .inr (.inl ⟨k, k2⟩)
  · exact .inr (.inr k)
  · exact absurd k hk
theorem inv_new (M Y : List Sm) (seed : Nat) (h : seed < 18446744073709551616) : (sd0 M seed).Inv M Y := ⟨rfl, h, (show (0 : Int) ≤ 0 by decide), (show (0 : Int) ≤ 1023 by decide), by show 0 + (Sd.mu (sd0 M seed)) ≤ 10; simp [Sd.mu, sd0], by simp [sd0], by simp [sd0], .inl rfl⟩
/-- All that is unlike, taken out and put in. -/
theorem exch_all {M Y : List Sm} (hY : srt Y) : setL (minusL M (minusL M Y) ++ minusL Y M) = Y := srt_ext (setL_srt _) hY fun z => by
  rw [setL_mem, List.mem_append, minusL_mem, minusL_mem, minusL_mem]
  constructor
  · rintro (⟨h1, h2⟩ | ⟨h1, _⟩)
    · exact Classical.byContradiction fun h => h2 ⟨h1, h⟩
    · exact h1
  · intro h
    by_cases hm : z ∈ M
    · exact .inl ⟨hm, fun h2 => h2.2 h⟩
    · exact .inr ⟨h, hm⟩
theorem inv_step {s : Sd} {M Y : List Sm} (h : s.Inv M Y) (hY : srt Y) (hYl : Y.length ≤ 512) (hMl : M.length ≤ 512) (hk : ¬ s.kind = 0) : (s.doS Y).Inv M Y ∧ (s.doE Y = 0 ∨ s.doE Y = 10) ∧ (s.doS Y).mu < s.mu := by
  have hg : goodL Y = true := by rw [goodL_srt hY, decide_eq_true hYl]
  have hr := h.rounds
  have hmod : (s.seed + 1) % 18446744073709551616 < 18446744073709551616 := Nat.mod_lt _ (by decide)
  rcases h.kind with k | ⟨k, k2, k3⟩ | k | ⟨k, _⟩
  · have e1 : s.doE Y = 0 := by
      unfold Sd.doE Sd.stE
      rw [if_pos k, if_pos k, stL_good, decide_eq_true rfl]; rfl
    have e2 : s.doS Y = s.st1 (stL s.seed Y) := by
      unfold Sd.doS Sd.stS Sd.stOk
      rw [if_pos k, stL_good, decide_eq_true k, decide_eq_true rfl]; rfl
    rw [e1, e2]
    obtain ⟨_, c1, c2, _, _⟩ := cells_law (a := (difGo s.seed (stL s.seed Y) (stL s.seed s.mine) 10 0 : Nat)) (b := (difGo s.seed (stL s.seed Y) (stL s.seed s.mine) 10 0 : Nat)) (Int.le_refl _)
    have cg := cells_good (difGo s.seed (stL s.seed Y) (stL s.seed s.mine) 10 0 : Nat)
    have m1 : s.mu = 10 := by unfold Sd.mu; rw [if_pos k]
    have hrN := rN_le (cellsN (difGo s.seed (stL s.seed Y) (stL s.seed s.mine) 10 0 : Nat))
    have m2 : (s.st1 (stL s.seed Y)).mu = rN (cellsN (difGo s.seed (stL s.seed Y) (stL s.seed s.mine) 10 0 : Nat)) + 1 := by
      unfold Sd.mu Sd.st1
      dsimp only
      rw [if_neg (by decide), if_pos rfl]
    refine ⟨⟨h.mine, hmod, ?_, ?_, ?_, h.lenT, h.lenO, .inr (.inl ⟨rfl, cg, c1⟩)⟩, .inl rfl, by omega⟩
    · show 0 ≤ cellsN _; omega
    · show cellsN _ ≤ 1023; omega
    · rw [m2]; show s.rounds + 1 + _ ≤ 10; omega
  · obtain ⟨N, hN, _⟩ := goodN_rng k2
    have hlen : ((ofL s.seed s.n Y).length : Int) = s.n := by rw [ofL_len k2]; omega
    have hok : s.tbOk s.seed (ofL s.seed s.n Y) = true := by
      unfold Sd.tbOk
      rw [decide_eq_true hlen, decide_eq_true rfl]; rfl
    have e1 : s.doE Y = if s.tbD (ofL s.seed s.n Y) (tellS Y) then 0 else 10 := by
      unfold Sd.doE Sd.tbE
      rw [if_neg (by omega), if_pos k, if_pos k, if_pos hok]
    have e2 : s.doS Y = s.tbS1 (ofL s.seed s.n Y) (tellS Y) := by
      unfold Sd.doS Sd.tbS
      rw [if_neg (by omega), if_pos k, if_pos k, if_pos hok]
    have m1 : s.mu = rN s.n + 1 := by unfold Sd.mu; rw [if_neg (by omega), if_pos k]
    have hrN := rN_le s.n
    rw [e1, e2]
    cases hd : s.tbD (ofL s.seed s.n Y) (tellS Y) with
    | true =>
      have e3 : s.tbS1 (ofL s.seed s.n Y) (tellS Y) = { s with kind := 0, n := 0, seed := 0, theirs := ownP s.seed (ofL s.seed s.n Y) s.mine, ours := ownQ s.seed (ofL s.seed s.n Y) s.mine, rounds := s.rounds + 1 } := by unfold Sd.tbS1; rw [hd]; rfl
      rw [e3]
      unfold Sd.tbD at hd
      rw [Bool.and_eq_true] at hd
      have hN0 := of_decide_eq_true hd.1
      have hT := of_decide_eq_true hd.2
      obtain ⟨_, _, _, eP, eQ, h1, h2⟩ := own_ok hN0
      refine ⟨⟨h.mine, (show (0 : Nat) < 18446744073709551616 by decide), (show (0 : Int) ≤ 0 by decide), (show (0 : Int) ≤ 1023 by decide), ?_, ownP_len _ _ _, ownQ_len _ _ _, .inr (.inr (.inr ⟨rfl, ⟨?_, ?_, ?_, ?_, hT⟩⟩))⟩, .inl rfl, ?_⟩
      · show s.rounds + 1 + 0 ≤ 10; omega
      · show srt (ownP _ _ _); rw [eP]; exact resP_srt
      · show srt (ownQ _ _ _); rw [eQ]; exact resM_srt
      · intro z hz hm
        have : z ∈ bothL (ownP s.seed (ofL s.seed s.n Y) s.mine) s.mine := bothL_mem.2 ⟨hz, hm⟩
        rw [h2] at this
        cases this
      · intro z hz
        refine Classical.byContradiction fun hm => ?_
        have : z ∈ minusL (ownQ s.seed (ofL s.seed s.n Y) s.mine) s.mine := minusL_mem.2 ⟨hz, hm⟩
        rw [h1] at this
        cases this
      · rw [m1]; show 0 < _; omega
    | false =>
      by_cases hn : s.n = 1023
      · have e3 : s.tbS1 (ofL s.seed s.n Y) (tellS Y) = { s with kind := 3, n := 0, seed := 0, rounds := s.rounds + 1 } := by unfold Sd.tbS1; rw [hd, if_neg (by decide), if_pos hn]
        rw [e3]
        refine ⟨⟨h.mine, (show (0 : Nat) < 18446744073709551616 by decide), (show (0 : Int) ≤ 0 by decide), (show (0 : Int) ≤ 1023 by decide), ?_, h.lenT, h.lenO, .inr (.inr (.inl rfl))⟩, .inr rfl, ?_⟩
        · show s.rounds + 1 + 1 ≤ 10; omega
        · rw [m1]; show 1 < _; omega
      · have e3 : s.tbS1 (ofL s.seed s.n Y) (tellS Y) = { s with kind := 2, n := min (2 * s.n) 1023, seed := (s.seed + 1) % 18446744073709551616, rounds := s.rounds + 1 } := by unfold Sd.tbS1; rw [hd, if_neg (by decide), if_neg hn]
        rw [e3]
        have hn1 := h.n1
        have hnx := rN_next k3 hn hn1
        have m2 : Sd.mu { s with kind := 2, n := min (2 * s.n) 1023, seed := (s.seed + 1) % 18446744073709551616, rounds := s.rounds + 1 } = rN (min (2 * s.n) 1023) + 1 := by
          unfold Sd.mu
          dsimp only
          rw [if_neg (by decide), if_pos rfl]
        refine ⟨⟨h.mine, hmod, ?_, ?_, ?_, h.lenT, h.lenO, .inr (.inl ⟨rfl, goodN_next k2, ?_⟩)⟩, .inr rfl, by omega⟩
        · show 0 ≤ min (2 * s.n) 1023; omega
        · show min (2 * s.n) 1023 ≤ 1023; omega
        · rw [m2]; show s.rounds + 1 + _ ≤ 10; omega
        · show 12 ≤ min (2 * s.n) 1023; omega
  · have e1 : s.doE Y = 0 := by
      unfold Sd.doE Sd.lsE
      rw [if_neg (by omega), if_neg (by omega), if_pos k, if_pos hg, if_pos rfl]
    have e2 : s.doS Y = Sd.fin { s with rounds := s.rounds + 1 } (minusL Y s.mine) (minusL s.mine Y) := by
      unfold Sd.doS Sd.lsS
      rw [if_neg (by omega), if_neg (by omega), if_pos k, if_pos hg, if_pos rfl]
    have m1 : s.mu = 1 := by unfold Sd.mu; rw [if_neg (by omega), if_neg (by omega), if_pos k]
    have l1 := minusL_len Y s.mine
    have l2 := minusL_len s.mine Y
    have l3 : s.mine.length ≤ 512 := by rw [h.mine]; exact hMl
    rw [e1, e2]
    refine ⟨⟨h.mine, (show (0 : Nat) < 18446744073709551616 by decide), (show (0 : Int) ≤ 0 by decide), (show (0 : Int) ≤ 1023 by decide), ?_, ?_, ?_, .inr (.inr (.inr ⟨rfl, ⟨minusL_srt _ _, minusL_srt _ _, ?_, ?_, ?_⟩⟩))⟩, .inl rfl, ?_⟩
    · show s.rounds + 1 + 0 ≤ 10; omega
    · show (minusL Y s.mine).length ≤ 1025; omega
    · show (minusL s.mine Y).length ≤ 1025; omega
    · exact fun z hz => (minusL_mem.1 hz).2
    · exact fun z hz => (minusL_mem.1 hz).1
    · show tellS (setL (minusL s.mine (minusL s.mine Y) ++ minusL Y s.mine)) = tellS Y
      rw [exch_all hY]
    · rw [m1]; exact Nat.zero_lt_one
  · exact absurd k hk
/-- Told truly it is just what is unlike. -/
theorem fin_same {s : Sd} {Y : List Sm} (h : SFin s Y) (e : setL (minusL s.mine s.ours ++ s.theirs) = Y) : s.theirs = minusL Y s.mine ∧ s.ours = minusL s.mine Y := by
  have hm : ∀ z, z ∈ Y ↔ (z ∈ s.mine ∧ z ∉ s.ours) ∨ z ∈ s.theirs := fun z => by
    rw [← e, setL_mem, List.mem_append, minusL_mem]
  constructor
  · refine srt_ext h.srtT (minusL_srt _ _) fun z => ?_
    rw [minusL_mem, hm]
    constructor
    · exact fun hz => ⟨.inr hz, h.out z hz⟩
    · rintro ⟨⟨h1, _⟩ | h1, h2⟩
      · exact absurd h1 h2
      · exact h1
  · refine srt_ext h.srtO (minusL_srt _ _) fun z => ?_
    rw [minusL_mem, hm]
    constructor
    · exact fun hz => ⟨h.inn z hz, fun h2 => h2.elim (fun h2 => h2.2 hz) fun h2 => h.out z h2 (h.inn z hz)⟩
    · rintro ⟨h1, h2⟩
      exact Classical.byContradiction fun h3 => h2 (.inl ⟨h1, h3⟩)
theorem cells2 : cellsN 2 = 12 := by decide
theorem cells0 : cellsN 0 = 12 := by decide
theorem g12r : goodN 12 = true := by decide
theorem minusL_nil (X : List Sm) (h : srt X) : minusL X [] = X := srt_ext (minusL_srt _ _) h fun z => by rw [minusL_mem]; simp
/-- One's own set is told alike at once. -/
theorem self18 {X : List Sm} (hX : srt X) (hl : X.length ≤ 512) (seed : Nat) : ∃ s1 : Sd, (sd0 X seed).doS X = s1 ∧ (sd0 X seed).doE X = 0 ∧ s1.doE X = 0 ∧ s1.doS X = ⟨X, 0, 0, 0, [], [], 2⟩ := by
  have hk : (sd0 X seed).kind = 1 := rfl
  have e2 : (sd0 X seed).doS X = ⟨X, 2, 12, (seed + 1) % 18446744073709551616, [], [], 1⟩ := by
    unfold Sd.doS Sd.stS Sd.stOk
    rw [if_pos hk, stL_good, decide_eq_true hk, decide_eq_true rfl]
    show Sd.st1 _ _ = _
    unfold Sd.st1 sd0
    dsimp only
    rw [dif_self]
    show Sd.mk X 2 (cellsN 0) _ [] [] 1 = _
    rw [cells0]
  have e1 : (sd0 X seed).doE X = 0 := by
    unfold Sd.doE Sd.stE
    rw [if_pos hk, if_pos hk, stL_good, decide_eq_true rfl]; rfl
  refine ⟨_, e2, e1, ?_⟩
  obtain ⟨o1, o2, o3⟩ := self16 ((seed + 1) % 18446744073709551616) g12r hX hl
  have hd : Sd.tbD ⟨X, 2, 12, (seed + 1) % 18446744073709551616, [], [], 1⟩ (ofL ((seed + 1) % 18446744073709551616) 12 X) (tellS X) = true := by
    unfold Sd.tbD
    dsimp only
    rw [o1, o2, o3, minusL_nil X hX, List.append_nil, setL_self hX, decide_eq_true rfl, decide_eq_true rfl]; rfl
  have hok : Sd.tbOk ⟨X, 2, 12, (seed + 1) % 18446744073709551616, [], [], 1⟩ ((seed + 1) % 18446744073709551616) (ofL ((seed + 1) % 18446744073709551616) 12 X) = true := by
    unfold Sd.tbOk
    dsimp only
    rw [ofL_len g12r, decide_eq_true rfl]; rfl
  constructor
  · unfold Sd.doE Sd.tbE
    rw [if_neg (show ¬ (2 : Int) = 1 by decide), if_pos rfl, if_pos rfl, if_pos hok, if_pos hd]
  · unfold Sd.doS Sd.tbS
    rw [if_neg (show ¬ (2 : Int) = 1 by decide), if_pos rfl, if_pos rfl, if_pos hok]
    unfold Sd.tbS1
    rw [if_pos hd]
    dsimp only
    rw [o2, o3]
theorem lv1r : levelS (fewS 1) = 0 := by decide +kernel
theorem lv2r : levelS (fewS 2) = 0 := by decide +kernel
theorem lv3r : levelS (fewS 3) = 0 := by decide +kernel
theorem place7 : (isAt 7 24 3 (fewS 1) != isAt 7 24 3 (fewS 3)) = true := by decide +kernel
theorem place8 : (isAt 8 12 0 (fewS 1) != isAt 8 12 0 (fewS 3)) = true := by decide +kernel
theorem few_mem2 (a b : Int) (z : Sm) : z ∈ fewL [a, b] ↔ z = fewS a ∨ z = fewS b := by
  unfold fewL
  rw [setL_mem]
  simp
theorem lvl_all {X : List Sm} (h : ∀ z ∈ X, levelS z = 0) : lvl X 0 = X ∧ ∀ i, ¬ i = 0 → lvl X i = [] := by
  unfold lvl
  constructor
  · exact List.filter_eq_self.2 fun z hz => decide_eq_true (h z hz)
  · exact fun i hi => List.filter_eq_nil_iff.2 fun z hz => by rw [h z hz, decide_eq_true_eq]; exact fun e => hi e.symm
/-- What the document tells of three. -/
theorem three18 : ∃ s1 : Sd, (sd0 (fewL [2, 3]) 7).doS (fewL [1, 2]) = s1 ∧ (sd0 (fewL [2, 3]) 7).doE (fewL [1, 2]) = 0 ∧ s1.doE (fewL [1, 2]) = 0 ∧ s1.doS (fewL [1, 2]) = ⟨fewL [2, 3], 0, 0, 0, [fewS 1], [fewS 3], 2⟩ := by
  obtain ⟨hl1, hl2⟩ := less_two few12 few13 few23
  have l12 := fewL_len [1, 2]
  have l23 := fewL_len [2, 3]
  have s12 := fewL_srt [1, 2]
  have s23 := fewL_srt [2, 3]
  have hY : setL (fewL [1, 2]) = fewL [1, 2] := setL_self s12
  have hM : setL (fewL [2, 3]) = fewL [2, 3] := setL_self s23
  obtain ⟨a1, a2⟩ := lvl_all (X := fewL [1, 2]) fun z hz => by rcases (few_mem2 1 2 z).1 hz with rfl | rfl; exact lv1r; exact lv2r
  obtain ⟨b1, b2⟩ := lvl_all (X := fewL [2, 3]) fun z hz => by rcases (few_mem2 2 3 z).1 hz with rfl | rfl; exact lv2r; exact lv3r
  obtain ⟨t1, _⟩ := two16 (seed := 7) (n := 24) (X := fewL [1, 2]) (Y := fewL [2, 3]) g24 s23 (by simp at l23; omega) hl1 hl2 (j := 3) (by decide) place7
  obtain ⟨r1, r2, r3⟩ := ok_two (seed := 7) (N := 24) (x := fewS 1) (y := fewS 3) g24 few13 (j := 3) (by decide) place7
  have hd0 : difD (stL 7 (fewL [1, 2])) (stL 7 (fewL [2, 3])) 0 = twoT 7 24 (fewS 1) (fewS 3) := by
    rw [dif_lvl 7 _ _ (by decide), hY, hM, a1, b1]
    exact t1
  have hdi : ∀ i, i < 10 → ¬ i = 0 → resN 7 (difD (stL 7 (fewL [1, 2])) (stL 7 (fewL [2, 3])) i) = 0 ∧ difC 7 (stL 7 (fewL [1, 2])) (stL 7 (fewL [2, 3])) i = 0 := fun i hi h0 => dif_same 7 hi (by rw [hY, hM, a2 i h0, b2 i h0])
  have hc0 : difC 7 (stL 7 (fewL [1, 2])) (stL 7 (fewL [2, 3])) 0 = 2 := by
    unfold difC
    rw [hd0, r2, r3]; rfl
  have hdif : difGo 7 (stL 7 (fewL [1, 2])) (stL 7 (fewL [2, 3])) 10 0 = 2 := by
    rw [difGo_ok 10 0 fun i hi => by
      by_cases h0 : i = 0
      · rw [h0, hd0]; exact r1
      · exact (hdi i hi h0).1, sumTo_one (j := 0) (n := 2) 10 (by decide) hc0 fun i hi h0 => (hdi i hi h0).2]
  have hk : (sd0 (fewL [2, 3]) 7).kind = 1 := rfl
  have e2 : (sd0 (fewL [2, 3]) 7).doS (fewL [1, 2]) = ⟨fewL [2, 3], 2, 12, 8, [], [], 1⟩ := by
    unfold Sd.doS Sd.stS Sd.stOk
    rw [if_pos hk, stL_good, decide_eq_true hk, decide_eq_true rfl]
    show Sd.st1 _ _ = _
    unfold Sd.st1 sd0
    dsimp only
    rw [hdif]
    show Sd.mk (fewL [2, 3]) 2 (cellsN 2) _ [] [] 1 = _
    rw [cells2]
  have e1 : (sd0 (fewL [2, 3]) 7).doE (fewL [1, 2]) = 0 := by
    unfold Sd.doE Sd.stE
    rw [if_pos hk, if_pos hk, stL_good, decide_eq_true rfl]; rfl
  refine ⟨_, e2, e1, ?_⟩
  obtain ⟨_, o1, o2, o3⟩ := two16 (seed := 8) (n := 12) (X := fewL [1, 2]) (Y := fewL [2, 3]) g12r s23 (by simp at l23; omega) hl1 hl2 (j := 0) (by decide) place8
  have hx := exch_all (M := fewL [2, 3]) s12
  have hl1 : minusL (fewL [1, 2]) (fewL [2, 3]) = [fewS 1] := hl1
  have hl2 : minusL (fewL [2, 3]) (fewL [1, 2]) = [fewS 3] := hl2
  rw [hl1, hl2] at hx
  have hd : Sd.tbD ⟨fewL [2, 3], 2, 12, 8, [], [], 1⟩ (ofL 8 12 (fewL [1, 2])) (tellS (fewL [1, 2])) = true := by
    unfold Sd.tbD
    dsimp only
    rw [o1, o2, o3, hx, decide_eq_true rfl, decide_eq_true rfl]; rfl
  have hok : Sd.tbOk ⟨fewL [2, 3], 2, 12, 8, [], [], 1⟩ 8 (ofL 8 12 (fewL [1, 2])) = true := by
    unfold Sd.tbOk
    dsimp only
    rw [ofL_len g12r, decide_eq_true rfl]; rfl
  constructor
  · unfold Sd.doE Sd.tbE
    rw [if_neg (show ¬ (2 : Int) = 1 by decide), if_pos rfl, if_pos rfl, if_pos hok, if_pos hd]
  · unfold Sd.doS Sd.tbS
    rw [if_neg (show ¬ (2 : Int) = 1 by decide), if_pos rfl, if_pos rfl, if_pos hok]
    unfold Sd.tbS1
    rw [if_pos hd]
    dsimp only
    rw [o2, o3]
end Go.Proofs.YtmefpnklgfhggaaGreatDoor

/- Layer 18: awake, ReconSelf. -/
namespace Go.Proofs.YtmefpnklgfhggaaGreatDoor
open Go.RowKit

theorem run_eql_ptrN {P : Program} (w : World) (t d : TypeId) (A : Addr) (hu : P.underlying t = some (.pointer d)) (n : Nat) : (Op.equalIn (n + 1) t (.pointer (some A)) (.pointer none)).run P w = .ok false w := by
  unfold Op.equalIn
  rw [Sem.run_bind, run_underlying hu]
  rfl
theorem run_eql_ptr {P : Program} (w : World) (t d : TypeId) (A : Addr) (hu : P.underlying t = some (.pointer d)) : (Op.equal t (.pointer (some A)) (.pointer none)).run P w = .ok false w := run_eql_ptrN w t d A hu 9999
theorem cEqlPtrNil {P : Program} {w0 : World} {Γ : Ctx} {o : Oper} {t t2 d : TypeId} {x : Operand} {A : Addr} (ho : o.op = .binOp .eql t x (.const (.pointer none)) t2) (hx : OpT Γ x (Ty.ex (.pointer (some A)))) (hu : P.underlying t = some (.pointer d)) : OpOk P w0 Γ o (Ty.ex (.bool false)) :=
  .val fun a w _ hs => by
    obtain ⟨v, h1, h2⟩ := hs x _ (by simp [ho, Op.operands]) hx
    have h2 : v = .pointer (some A) := h2
    have hc : a.eval (.const (.pointer none)) = .pointer none := rfl
    have he := run_eql_ptr (P := P) w t d A hu
    refine ⟨_, rfl, ?_⟩
    unfold execOp
    simp [ho, h1, h2, hc, eqGuard, binOp, he]
/-- One answer, as an operation of a list. -/
theorem tlDoes {ops : Array Oper} {Q : Exit → Act → World → Prop} {N : Nat} {Γ Δ : Ctx} {a : Act} {w : World} {o : Oper} {rest : List Oper} {d x y g : Nat} {ats : Array TypeId} {τ : Ty} {m t u : Value} {s : Sd} {M Y : List Sm} (hF : Fr N Γ a w) (hg : o.guard = none) (hd : o.dst = some d) (hdN : d < N) (ho : o.op = .call { callee := .value (.func 33), args := #[.tmp x, .tmp y], argTypes := ats }) (hx : look Γ x = some (Ty.ex (.pointer (some ⟨g, 0, none⟩)))) (hy : look Γ y = some τ) (hτ : ∀ w v, τ.p w v → (Ty.sums 28 Y).p w v) (hS : SideM w g m t u s) (hT : TabOk w) (hI : s.Inv M Y) (hY : srt Y) (hYl : Y.length ≤ 512) (hMl : M.length ≤ 512) (hk : ¬ s.kind = 0) (hΔ : Fr N Δ a w) (hfree : Δ.free SideT = true)
    (hq : ∀ a' w' t' u', Fr N ((d, Ty.ex (.int .i64 (s.doE Y))) :: Δ) a' w' → SideM w' g m t' u' (s.doS Y) → Keeps [g] w w' → wpList Tryz.prog ops Q rest a' w') : wpList Tryz.prog ops Q (o :: rest) a w := by
  obtain ⟨v, hv, hF2⟩ := hF.open hy
  have hm := hI.mine
  have hr := hI.rounds
  have h0 := hI.n0
  have h1 := hI.n1
  refine tlCall (R := fun r w' => r = .int .i64 (s.doE Y) ∧ (∃ t' u', SideM w' g m t' u' (s.doS Y)) ∧ Keeps [g] w w') (args := #[.pointer (some ⟨g, 0, none⟩), v]) hg hd ho ?_ (fun args w => by kernel_rfl) ((does_acts hS hT Y (hτ _ _ hv) (by rw [goodL_srt hY, decide_eq_true hYl]) (hI.wants hk) (by rw [hm]; omega) (by omega) hI.seed (by omega) h0 (by omega)).mono fun e w' ⟨k1, k2, k3⟩ => ⟨_, k1, rfl, k2, k3⟩) ?_
  · simp only [List.map_toArray, List.map_cons, List.map_nil, hF.getEx hx, hF2.getEx (look_same _ _ _)]
  rintro r w' ⟨rfl, ⟨t', u', hS'⟩, hk'⟩
  exact hq _ _ _ _ ((fr_side hΔ hS hk' hfree).put hdN (Below.refl _ _) rfl) hS' hk'
theorem sd0_wants (M : List Sm) (seed : Nat) : ¬ (sd0 M seed).kind = 0 := by show ¬ (1 : Int) = 0; decide
theorem enDone : Enters Tryz.prog 20 := fun args w => by kernel_rfl
theorem enRounds : Enters Tryz.prog 21 := fun args w => by kernel_rfl
theorem enTheirs : Enters Tryz.prog 23 := fun args w => by kernel_rfl
theorem enOurs : Enters Tryz.prog 32 := fun args w => by kernel_rfl
set_option maxRecDepth 100000 in
set_option maxHeartbeats 4000000 in
theorem awake18_ret (w : World) (hT : TabOk w) : Ret Tryz.prog 8 #[] w (Ty.ex (.bool true)) := by
  have f23 := few18_ty [2, 3] (Ty.sl 3 2 [ivz 2, ivz 3]) (reads_sl _ _ _) (by simp)
  have f12 := few18_ty [1, 2] (Ty.sl 3 2 [ivz 1, ivz 2]) (reads_sl _ _ _) (by simp)
  have f1 := few18_ty [1] (Ty.sl 3 1 [ivz 1]) (reads_sl _ _ _) (by simp)
  have f3 := few18_ty [3] (Ty.sl 3 1 [ivz 3]) (reads_sl _ _ _) (by simp)
  rw [fewL_one] at f1 f3
  have l12 := fewL_len [1, 2]
  have l23 := fewL_len [2, 3]
  have s12 := fewL_srt [1, 2]
  have s23 := fewL_srt [2, 3]
  obtain ⟨s1, e1, d1, d2, e2⟩ := three18
  have i0 := inv_new (fewL [2, 3]) (fewL [1, 2]) 7 (by decide)
  have l12 : (fewL [1, 2]).length ≤ 512 := by simp at l12; omega
  have l23 : (fewL [2, 3]).length ≤ 512 := by simp at l23; omega
  have i1 := (inv_step i0 s12 l12 l23 (by decide)).1
  rw [e1] at i1
  have k1 : ¬ s1.kind = 0 := fun h => by
    have e := congrArg Sd.rounds e2
    have hk1 : ¬ s1.kind = 1 := by omega
    unfold Sd.doS at e
    rw [if_neg hk1, if_neg (by omega)] at e
    unfold Sd.lsS at e
    rw [if_neg (by omega)] at e
    have e' := congrArg Sd.rounds e1
    unfold Sd.doS Sd.stS Sd.stOk at e'
    rw [if_pos (show (sd0 (fewL [2, 3]) 7).kind = 1 from rfl), stL_good, decide_eq_true (show (sd0 (fewL [2, 3]) 7).kind = 1 from rfl), decide_eq_true rfl] at e'
    have e'' : 1 = s1.rounds := e'
    have e3 : s1.rounds = 2 := e
    omega
  have hNw := new_any (fewL [2, 3]) 7 (by omega) (by rw [goodL_srt s23, decide_eq_true l23])
  generalize fewL [1, 2] = Y at *
  generalize fewL [2, 3] = M at *
  refine enter_ty 54 [] Tryz.func8 rfl (by kernel_rfl) trivial fun a hF => ?_
  have hB := Below.refl w.heap.size w
  repeat with_reducible refine wp_seq ?_
  refine' reg_all hF ?_ mixed (by kernel_rfl) ?_
  rotate_left
  · repeat (first | exact Line.nil | ((refine' Line.cons rfl (.run rfl rfl ?_) ?_); (any_goals exact cAssign rfl rfl); rotate_left))
  intro a w1 hF hb hN
  have hBs := hB.size
  replace hB := hB.trans (hb.mono hB.size)
  dsimp only [ext, Option.getD] at hF
  repeat with_reducible first | refine wp_seq ?_ | refine nThen ?_
  refine' reg_all hF ?_ mixed (by kernel_rfl) ?_
  rotate_left
  · repeat (first | exact Line.nil | ((refine' Line.cons rfl (.run rfl rfl ?_) ?_); (any_goals (first | exact cMove rfl rfl | exact cAssign rfl rfl | exact cBuildV (vs := [ivz 2, ivz 3]) rfl (parts2v rfl rfl rfl) Tryz.underlying33 infoInt rfl (by simp [Value.cells, ivz]) (by decide) (by simp [maxLen]) | exact cCallS1 rfl (.t rfl) f23 | exact cCallR2 rfl (Has.c (.t rfl) seg_sl) (.t rfl) hNw (newSd_olds _ _) | exact cExtract rfl rfl rfl)); rotate_left))
  intro a w2 hF hb hN
  have hBs := hB.size
  replace hB := hB.trans (hb.mono hB.size)
  dsimp only [ext, Option.getD] at hF
  repeat with_reducible first | refine wp_seq ?_ | refine nThen ?_
  obtain ⟨z, ⟨g, m, rfl, hgw, hS⟩, hF⟩ := hF.open (s := 1) rfl
  have hgw : w.heap.size ≤ g := by
    have : w1.heap.size ≤ g := hgw
    omega
  refine' reg_all hF ?_ mixed (by kernel_rfl) ?_
  rotate_left
  · repeat (first | exact Line.nil | ((first | refine' Line.cons rfl (.run rfl rfl ?_) ?_ | refine' Line.cons rfl (.yes rfl rfl rfl rfl ?_) ?_); (any_goals (first | exact cMove rfl rfl | exact OpOk.b (c := false) (cNeq rfl rfl rfl) rfl | exact cEqlPtrNil rfl rfl Tryz.underlying23 | exact cPickF rfl rfl rfl)); rotate_left))
  intro a w3 hF hb hN
  have hBs := hB.size
  replace hB := hB.trans (hb.mono hB.size)
  dsimp only [ext, Option.getD] at hF
  repeat with_reducible refine nThen ?_
  replace hS := hS.below hb
  refine cond_f hF rfl ?_
  repeat with_reducible first | refine wp_seq ?_ | refine nThen ?_ | refine wp_skip ?_
  refine wp_region_lit ?_
  refine' tlOp hF rfl rfl rfl ?_ ?_
  rotate_left
  · exact cMove rfl rfl
  intro a w4 hF hb
  have hBs := hB.size
  replace hB := hB.trans (hb.mono hB.size)
  try (refine wpList_nil ?_)
  replace hS := hS.below hb
  refine' tlOp hF rfl rfl rfl ?_ ?_
  rotate_left
  · exact cBuildV (vs := [ivz 1, ivz 2]) rfl (parts2v rfl rfl rfl) Tryz.underlying33 infoInt rfl (by simp [Value.cells, ivz]) (by decide) (by simp [maxLen])
  intro a w5 hF hb
  have hBs := hB.size
  replace hB := hB.trans (hb.mono hB.size)
  try (refine wpList_nil ?_)
  replace hS := hS.below hb
  refine' tlOp hF rfl rfl rfl ?_ ?_
  rotate_left
  · exact cCallS1 rfl (.t rfl) f12
  intro a w6 hF hb
  have hBs := hB.size
  replace hB := hB.trans (hb.mono hB.size)
  try (refine wpList_nil ?_)
  replace hS := hS.below hb
  refine tlDoes hF rfl rfl (by decide) rfl rfl rfl seg_sl hS (hT.below hB) i0 s12 l12 l23 (sd0_wants _ _) (hF.keep [1]) rfl fun a w7 t1 o1 hF hS1 hk7 => ?_
  rw [e1] at hS1
  rw [d1] at hF
  have hS := hS1
  clear hS1
  replace hB := below_own hB hk7 (by intro y hy; simp only [List.mem_singleton] at hy; omega)
  refine' tlOp hF rfl rfl rfl ?_ ?_
  rotate_left
  · exact cMove rfl rfl
  intro a w8 hF hb
  have hBs := hB.size
  replace hB := hB.trans (hb.mono hB.size)
  try (refine wpList_nil ?_)
  replace hS := hS.below hb
  refine' tlOp hF rfl rfl rfl ?_ ?_
  rotate_left
  · exact cBuildV (vs := [ivz 1, ivz 2]) rfl (parts2v rfl rfl rfl) Tryz.underlying33 infoInt rfl (by simp [Value.cells, ivz]) (by decide) (by simp [maxLen])
  intro a w9 hF hb
  have hBs := hB.size
  replace hB := hB.trans (hb.mono hB.size)
  try (refine wpList_nil ?_)
  replace hS := hS.below hb
  refine' tlOp hF rfl rfl rfl ?_ ?_
  rotate_left
  · exact cCallS1 rfl (.t rfl) f12
  intro a w10 hF hb
  have hBs := hB.size
  replace hB := hB.trans (hb.mono hB.size)
  try (refine wpList_nil ?_)
  replace hS := hS.below hb
  refine tlDoes hF rfl rfl (by decide) rfl rfl rfl seg_sl hS (hT.below hB) i1 s12 l12 l23 k1 (hF.keep [1, 20]) rfl fun a w11 t2 o2 hF hS2 hk11 => ?_
  rw [e2] at hS2
  rw [d2] at hF
  have hS := hS2
  clear hS2
  replace hB := below_own hB hk11 (by intro y hy; simp only [List.mem_singleton] at hy; omega)
  refine' tlOp hF rfl rfl rfl ?_ ?_
  rotate_left
  · exact cAssign rfl rfl
  intro a w12 hF hb
  have hBs := hB.size
  replace hB := hB.trans (hb.mono hB.size)
  try (refine wpList_nil ?_)
  replace hS := hS.below hb
  refine' tlOp hF rfl rfl rfl ?_ ?_
  rotate_left
  · exact cAssign rfl rfl
  intro a w13 hF hb
  have hBs := hB.size
  replace hB := hB.trans (hb.mono hB.size)
  try (refine wpList_nil ?_)
  repeat with_reducible first | refine wp_seq ?_ | refine nThen ?_
  replace hS := hS.below hb
  have hlT : (Sd.mk M 0 0 0 [fewS 1] [fewS 3] 2).theirs.length ≤ 1000000 := by simp
  have hlO : (Sd.mk M 0 0 0 [fewS 1] [fewS 3] 2).ours.length ≤ 1000000 := by simp
  have q1 := same_ty [fewS 1] [fewS 1] (by simp) (by simp)
  have q3 := same_ty [fewS 3] [fewS 3] (by simp) (by simp)
  rw [same_one] at q1 q3
  refine' reg_all hF ?_ mixed (by kernel_rfl) ?_
  rotate_left
  · repeat (first | exact Line.nil | ((first | refine' Line.cons rfl (.run rfl rfl ?_) ?_ | refine' Line.cons rfl (.yes rfl rfl rfl rfl ?_) ?_); (any_goals (first | exact cMove rfl rfl | exact cAssign rfl rfl | exact OpOk.b (c := true) (cEql rfl rfl rfl) rfl | exact cCallX1 rfl rfl enDone (fun W hb => done_ret (hS.below hb)) | exact cCallX1 rfl rfl enRounds (fun W hb => rounds_ret (hS.below hb)) | exact cCallX1 rfl rfl enTheirs (fun W hb => theirs_ret (hS.below hb) hlT) | exact cCallX1 rfl rfl enOurs (fun W hb => ours_ret (hS.below hb) hlO) | exact cBuildV (vs := [ivz 1]) rfl (parts1v rfl rfl) Tryz.underlying33 infoInt rfl (by simp [Value.cells, ivz]) (by decide) (by simp [maxLen]) | exact cBuildV (vs := [ivz 3]) rfl (parts1v rfl rfl) Tryz.underlying33 infoInt rfl (by simp [Value.cells, ivz]) (by decide) (by simp [maxLen]) | exact cCallS1 rfl (.t rfl) f1 | exact cCallS1 rfl (.t rfl) f3 | exact cCallH2 rfl (.t rfl) (Has.c (.t rfl) seg_sl) q1 | exact cCallH2 rfl (.t rfl) (Has.c (.t rfl) seg_sl) q3 | exact cPickT rfl rfl rfl)); rotate_left))
  intro a w14 hF hb hN
  have hBs := hB.size
  replace hB := hB.trans (hb.mono hB.size)
  dsimp only [ext, Option.getD] at hF
  repeat with_reducible first | refine nThen ?_ | refine wp_ret ?_
  refine ret1 hF rfl rfl fun z hz => ?_
  exact ⟨z, rfl, hz, hB⟩
theorem enAwake18 : Enters Tryz.prog 8 := fun args w => by kernel_rfl
set_option maxRecDepth 100000 in
set_option maxHeartbeats 4000000 in
theorem lawReconSelf_any (l : List Int) (seed : Nat) {W : World} {v0 : Value} (hsd : seed < 18446744073709551616) (h0 : (Ty.rd l.length (l.map ivz)).p W v0) (hT : TabOk W) : Calls Tryz.prog 6 #[v0, .int .u64 (seed : Int)] W fun e w' => e = .returned (.bool true) ∧ Below W.heap.size W w' := by
  let TA := Ty.rd l.length (l.map ivz)
  refine enter_ty 62 [Ty.ex v0, Ty.ex (.int .u64 (seed : Int))] Tryz.func6 rfl (by kernel_rfl) ⟨rfl, rfl, trivial⟩ fun a hF => ?_
  have hB := Below.refl W.heap.size W
  repeat with_reducible refine wp_seq ?_
  refine' reg_all hF ?_ mixed (by kernel_rfl) ?_
  rotate_left
  · repeat (first | exact Line.nil | ((refine' Line.cons rfl (.run rfl rfl ?_) ?_); (any_goals exact cAssign rfl rfl); rotate_left))
  intro a w1 hF hb hN
  have hBs := hB.size
  replace hB := hB.trans (hb.mono hB.size)
  dsimp only [ext, Option.getD] at hF
  repeat with_reducible first | refine wp_seq ?_ | refine nThen ?_
  refine' reg_all hF ?_ mixed (by kernel_rfl) ?_
  rotate_left
  · repeat (first | exact Line.nil | ((refine' Line.cons rfl (.run rfl rfl ?_) ?_); (any_goals (first | exact cNot rfl rfl | exact cCallT0 rfl (hT.below hB) enAwake18 awake18_ret)); rotate_left))
  intro a w2 hF hb hN
  have hBs := hB.size
  replace hB := hB.trans (hb.mono hB.size)
  dsimp only [ext, Option.getD] at hF
  repeat with_reducible refine nThen ?_
  refine cond_f hF rfl ?_
  repeat with_reducible first | refine wp_seq ?_ | refine nThen ?_ | refine wp_skip ?_
  have k2 := TA.below h0 hB
  by_cases c1 : (60 : Int) < l.length
  · refine' reg_all hF ?_ mixed (by kernel_rfl) ?_
    rotate_left
    · repeat (first | exact Line.nil | ((refine' Line.cons rfl (.run rfl rfl ?_) ?_); (any_goals (first | exact cMove rfl rfl | exact cLenH rfl (.l rfl k2) (Ty.rd_isSl _ _) Tryz.underlying33 | exact OpOk.b (c := true) (cGtr rfl rfl rfl) (decide_eq_true (by omega)))); rotate_left))
    intro a w3 hF hb hN
    have hBs := hB.size
    replace hB := hB.trans (hb.mono hB.size)
    dsimp only [ext, Option.getD] at hF
    repeat with_reducible refine nThen ?_
    refine cond_t hF rfl ?_
    repeat with_reducible refine wp_seq ?_
    refine' reg_all hF ?_ mixed (by kernel_rfl) ?_
    rotate_left
    · repeat (first | exact Line.nil | ((refine' Line.cons rfl (.run rfl rfl ?_) ?_); (any_goals exact cAssign rfl rfl); rotate_left))
    intro a w4 hF hb hN
    have hBs := hB.size
    replace hB := hB.trans (hb.mono hB.size)
    dsimp only [ext, Option.getD] at hF
    repeat with_reducible first | refine nThen ?_ | refine wp_ret ?_ | refine rThen ?_
    refine ret1 hF rfl rfl fun z hz => ?_
    exact ⟨by rw [show z = .bool true from hz], hB⟩
  have f1 := few18_ty l TA (reads_rd _ _) (by omega)
  have hXl := fewL_len l
  have hXs := fewL_srt l
  generalize fewL l = X at *
  have lX : X.length ≤ 512 := by omega
  have hNw := new_any X seed (by omega) (by rw [goodL_srt hXs, decide_eq_true lX])
  obtain ⟨s1, e1, d1, d2, e2⟩ := self18 hXs lX seed
  have i0 := inv_new X X seed hsd
  have i1 := (inv_step i0 hXs lX lX (sd0_wants _ _)).1
  rw [e1] at i1
  have k1 : ¬ s1.kind = 0 := fun h => by
    have e := congrArg Sd.rounds e2
    unfold Sd.doS at e
    rw [if_neg (by omega), if_neg (by omega)] at e
    unfold Sd.lsS at e
    rw [if_neg (by omega)] at e
    have e' := congrArg Sd.rounds e1
    unfold Sd.doS Sd.stS Sd.stOk at e'
    rw [if_pos (show (sd0 X seed).kind = 1 from rfl), stL_good, decide_eq_true (show (sd0 X seed).kind = 1 from rfl), decide_eq_true rfl] at e'
    have e'' : 1 = s1.rounds := e'
    have e3 : s1.rounds = 2 := e
    omega
  refine' reg_all hF ?_ mixed (by kernel_rfl) ?_
  rotate_left
  · repeat (first | exact Line.nil | ((refine' Line.cons rfl (.run rfl rfl ?_) ?_); (any_goals (first | exact cMove rfl rfl | exact cLenH rfl (.l rfl k2) (Ty.rd_isSl _ _) Tryz.underlying33 | exact OpOk.b (c := false) (cGtr rfl rfl rfl) (decide_eq_false (by omega)))); rotate_left))
  intro a w3 hF hb hN
  have hBs := hB.size
  replace hB := hB.trans (hb.mono hB.size)
  dsimp only [ext, Option.getD] at hF
  repeat with_reducible refine nThen ?_
  refine cond_f hF rfl ?_
  repeat with_reducible first | refine wp_seq ?_ | refine nThen ?_ | refine wp_skip ?_
  replace k2 := TA.below k2 hb
  refine' reg_all hF ?_ mixed (by kernel_rfl) ?_
  rotate_left
  · repeat (first | exact Line.nil | ((refine' Line.cons rfl (.run rfl rfl ?_) ?_); (any_goals (first | exact cMove rfl rfl | exact cAssign rfl rfl | exact cCallS1 rfl (.l rfl k2) f1)); rotate_left))
  intro a w4 hF hb hN
  have hBs := hB.size
  replace hB := hB.trans (hb.mono hB.size)
  dsimp only [ext, Option.getD] at hF
  repeat with_reducible first | refine wp_seq ?_ | refine nThen ?_
  replace hF := hF.as hF (s := 5) (σ := Ty.sums 28 X) rfl (fun v hv => seg_sl _ _ hv)
  have hw4 := hB.size
  refine' reg_all hF ?_ mixed (by kernel_rfl) ?_
  rotate_left
  · repeat (first | exact Line.nil | ((refine' Line.cons rfl (.run rfl rfl ?_) ?_); (any_goals (first | exact cMove rfl rfl | exact cAssign rfl rfl | exact cCallR2 rfl (.t rfl) (.t rfl) hNw (newSd_olds _ _) | exact cExtract rfl rfl rfl)); rotate_left))
  intro a w5 hF hb hN
  have hBs := hB.size
  replace hB := hB.trans (hb.mono hB.size)
  dsimp only [ext, Option.getD] at hF
  repeat with_reducible first | refine wp_seq ?_ | refine nThen ?_
  obtain ⟨z, ⟨g, m, rfl, hgw, hS⟩, hF⟩ := hF.open (s := 6) rfl
  have hgw : W.heap.size ≤ g := by
    have : w4.heap.size ≤ g := hgw
    omega
  refine' reg_all hF ?_ mixed (by kernel_rfl) ?_
  rotate_left
  · repeat (first | exact Line.nil | ((first | refine' Line.cons rfl (.run rfl rfl ?_) ?_ | refine' Line.cons rfl (.yes rfl rfl rfl rfl ?_) ?_); (any_goals (first | exact cMove rfl rfl | exact OpOk.b (c := false) (cNeq rfl rfl rfl) rfl | exact cEqlPtrNil rfl rfl Tryz.underlying23 | exact cPickF rfl rfl rfl)); rotate_left))
  intro a w6 hF hb hN
  have hBs := hB.size
  replace hB := hB.trans (hb.mono hB.size)
  dsimp only [ext, Option.getD] at hF
  repeat with_reducible refine nThen ?_
  replace hS := hS.below hb
  refine cond_f hF rfl ?_
  repeat with_reducible first | refine wp_seq ?_ | refine nThen ?_ | refine wp_skip ?_
  refine wp_region_lit ?_
  refine' tlOp hF rfl rfl rfl ?_ ?_
  rotate_left
  · exact cMove rfl rfl
  intro a w7a hF hb
  have hBs := hB.size
  replace hB := hB.trans (hb.mono hB.size)
  try (refine wpList_nil ?_)
  replace hS := hS.below hb
  refine' tlOp hF rfl rfl rfl ?_ ?_
  rotate_left
  · exact cMove rfl rfl
  intro a w7b hF hb
  have hBs := hB.size
  replace hB := hB.trans (hb.mono hB.size)
  try (refine wpList_nil ?_)
  replace hS := hS.below hb
  refine tlDoes hF rfl rfl (by decide) rfl rfl rfl (fun _ _ h => h) hS (hT.below hB) i0 hXs lX lX (sd0_wants _ _) (hF.keep [5, 6]) rfl fun a w8 t1 o1 hF hS1 hk8 => ?_
  rw [e1] at hS1
  rw [d1] at hF
  have hS := hS1
  clear hS1
  replace hB := below_own hB hk8 (by intro y hy; simp only [List.mem_singleton] at hy; omega)
  refine' tlOp hF rfl rfl rfl ?_ ?_
  rotate_left
  · exact cMove rfl rfl
  intro a w9a hF hb
  have hBs := hB.size
  replace hB := hB.trans (hb.mono hB.size)
  try (refine wpList_nil ?_)
  replace hS := hS.below hb
  refine' tlOp hF rfl rfl rfl ?_ ?_
  rotate_left
  · exact cMove rfl rfl
  intro a w9b hF hb
  have hBs := hB.size
  replace hB := hB.trans (hb.mono hB.size)
  try (refine wpList_nil ?_)
  replace hS := hS.below hb
  refine tlDoes hF rfl rfl (by decide) rfl rfl rfl (fun _ _ h => h) hS (hT.below hB) i1 hXs lX lX k1 (hF.keep [6, 31]) rfl fun a w10 t2 o2 hF hS2 hk10 => ?_
  rw [e2] at hS2
  rw [d2] at hF
  have hS := hS2
  clear hS2
  replace hB := below_own hB hk10 (by intro y hy; simp only [List.mem_singleton] at hy; omega)
  refine' tlOp hF rfl rfl rfl ?_ ?_
  rotate_left
  · exact cAssign rfl rfl
  intro a w11 hF hb
  have hBs := hB.size
  replace hB := hB.trans (hb.mono hB.size)
  try (refine wpList_nil ?_)
  replace hS := hS.below hb
  refine' tlOp hF rfl rfl rfl ?_ ?_
  rotate_left
  · exact cAssign rfl rfl
  intro a w12 hF hb
  have hBs := hB.size
  replace hB := hB.trans (hb.mono hB.size)
  try (refine wpList_nil ?_)
  repeat with_reducible first | refine wp_seq ?_ | refine nThen ?_
  replace hS := hS.below hb
  have hlT : (Sd.mk X 0 0 0 [] [] 2).theirs.length ≤ 1000000 := by simp
  have hlO : (Sd.mk X 0 0 0 [] [] 2).ours.length ≤ 1000000 := by simp
  refine' reg_all hF ?_ mixed (by kernel_rfl) ?_
  rotate_left
  · repeat (first | exact Line.nil | ((first | refine' Line.cons rfl (.run rfl rfl ?_) ?_ | refine' Line.cons rfl (.yes rfl rfl rfl rfl ?_) ?_); (any_goals (first | exact cMove rfl rfl | exact cAssign rfl rfl | exact OpOk.b (c := true) (cEql rfl rfl rfl) rfl | exact cCallX1 rfl rfl enDone (fun W hb => done_ret (hS.below hb)) | exact cCallX1 rfl rfl enRounds (fun W hb => rounds_ret (hS.below hb)) | exact cCallX1 rfl rfl enTheirs (fun W hb => theirs_ret (hS.below hb) hlT) | exact cCallX1 rfl rfl enOurs (fun W hb => ours_ret (hS.below hb) hlO) | exact cLenH rfl (.t rfl) (Ty.sl_isSl _ _ _) Tryz.underlying30 | exact cPickT rfl rfl rfl)); rotate_left))
  intro a w13 hF hb hN
  have hBs := hB.size
  replace hB := hB.trans (hb.mono hB.size)
  dsimp only [ext, Option.getD] at hF
  repeat with_reducible first | refine nThen ?_ | refine wp_ret ?_
  refine ret1 hF rfl rfl fun z hz => ?_
  exact ⟨by rw [show z = .bool true from hz], hB⟩
end Go.Proofs.YtmefpnklgfhggaaGreatDoor

/- From a row's reading of an argument to what a walk takes: slices of bytes; whole numbers. -/
namespace Go.Proofs.YtmefpnklgfhggaaGreatDoor
open Go.RowKit Go.ChangeShapes Go.WideShapes

theorem nat_of_wf {k : IntKind} {n : Int} (h : (Lit.int k n).wf = true) : k.min ≤ n ∧ n ≤ k.max := by
  simpa [Lit.wf] using h

end Go.Proofs.YtmefpnklgfhggaaGreatDoor

/- From a row's reading of an argument to what a walk takes: whole numbers in a slice; sums of thirty-two bytes. -/
namespace Go.Proofs.YtmefpnklgfhggaaGreatDoor
open Go.RowKit Go.ChangeShapes Go.WideShapes

theorem row_ints {H : Type} {enc : TypeId × Value → H} {P : Program} {W : World} {sp : Nat → Bool} {t e : TypeId} {a : Option Addr} {len cap : Nat} {d : DataW H} {ps : List MemPlace}
    (ht : P.underlying t = some (.slice e)) (he : P.underlying e = some (.int .i64)) (hc : P.cellsOf e = 1) (h : DataW.Trod enc P W 0 sp true t (.slice a len cap) d ps) :
    ∃ l : List Int, l.length = len ∧ len ≤ cap ∧ len ≤ maxLen ∧ Rd W a (l.map (Value.int .i64)) ∧ (a = none → len = 0) ∧ ∀ x ∈ l, -9223372036854775808 ≤ x ∧ x ≤ 9223372036854775807 := by
  obtain ⟨fuel, hf⟩ := h
  rcases open_ints ht he hc hf with ⟨hcs, _⟩ | ⟨x, l, c, zs, hcs, _, hl, hm, hz, _, hcell, hwz⟩
  · simp [Value.cells] at hcs
    obtain ⟨rfl, rfl, rfl⟩ := hcs
    exact ⟨[], rfl, Nat.le_refl _, Nat.zero_le _, Rd.nil _ _, fun _ => rfl, by simp⟩
  · simp [Value.cells] at hcs
    obtain ⟨rfl, rfl, rfl⟩ := hcs
    have hlz : len ≤ zs.length := by rw [hz]; split <;> omega
    refine ⟨zs.take len, by simp; omega, hl, by omega, ?_, by simp, ?_⟩
    · intro j v hv
      refine ⟨x, rfl, ?_⟩
      rw [List.getElem?_map, List.getElem?_take] at hv
      split at hv
      · rename_i hj
        have hjz : j < zs.length := by omega
        rw [List.getElem?_eq_getElem hjz] at hv
        simp only [Option.map_some, Option.some.injEq] at hv
        rw [hcell j hjz, ← hv]
        simp [List.getD, List.getElem?_eq_getElem hjz]
      · simp at hv
    · intro y hy
      have := nat_of_wf (hwz y (List.mem_of_mem_take hy))
      simpa [IntKind.min, IntKind.max, IntKind.signed, IntKind.bits] using this

end Go.Proofs.YtmefpnklgfhggaaGreatDoor
