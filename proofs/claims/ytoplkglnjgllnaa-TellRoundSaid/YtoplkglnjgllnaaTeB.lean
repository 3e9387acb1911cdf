/-
  Layer 2, in plain Lean: what is laid is read as it was.
  What is written is read as it was (no program in sight).
  A good reply may be (no program in sight).
-/
import Derived.Test.YtoplkglnjgllnaaLittleP
import Derived.Test.YtoplkglnjgllnaaTeA
import Derived.Test.YtoplkglnjgllnaaTellR4
import Derived.Test.YtoplkglnjgllnaaTellS
namespace Go.Proofs.Ytoplkglnjgllnaa
open Go.RowKit
set_option linter.unusedVariables false
set_option linter.unusedSimpArgs false

theorem nxB_app (a r : List UInt8) (k : Nat) (h : a.length = k) : nxB (a ++ r) 0 k = a := by
  unfold nxB; rw [if_pos ⟨rfl, by simp; omega⟩, List.take_left' h]
theorem nxL_app (a r : List UInt8) (k : Nat) (h : a.length = k) : nxL (a ++ r) 0 k = r := by
  unfold nxL; rw [if_pos ⟨rfl, by simp; omega⟩, List.drop_left' h]
theorem nxE_app (a r : List UInt8) (k : Nat) (h : a.length = k) : nxE (a ++ r) 0 k = 0 := by
  unfold nxE; rw [if_pos rfl, if_pos (by simp; omega)]
theorem num_le_small (k n : Nat) (h : n < 256 ^ k) : num (le k n) = n := by rw [num_le, Nat.mod_eq_of_lt h]
/-- A text, as it is laid. -/
theorem tx_app (s r : List UInt8) (h : s.length < 65536) : txB (le 2 s.length ++ (s ++ r)) 0 = s ∧ txL (le 2 s.length ++ (s ++ r)) 0 = r ∧ txE (le 2 s.length ++ (s ++ r)) 0 = 0 := by
  unfold txB txL txE
  rw [nxB_app _ _ 2 (le_length _ _), nxL_app _ _ 2 (le_length _ _), nxE_app _ _ 2 (le_length _ _), num_le_small 2 _ (by omega)]
  exact ⟨nxB_app _ _ _ rfl, nxL_app _ _ _ rfl, nxE_app _ _ _ rfl⟩
/-- Data, as they are laid. -/
theorem dt_app (s r : List UInt8) (most : Int) (h : s.length < 4294967296) (hm : (s.length : Int) ≤ most) : dtB (le 4 s.length ++ (s ++ r)) 0 most = s ∧ dtL (le 4 s.length ++ (s ++ r)) 0 most = r ∧ dtE (le 4 s.length ++ (s ++ r)) 0 most = 0 := by
  have hb : ¬ dtBad (le 4 s.length ++ (s ++ r)) 0 most := by
    unfold dtBad
    rw [nxB_app _ _ 4 (le_length _ _), num_le_small 4 _ (by omega)]
    omega
  unfold dtB dtL dtE
  rw [if_neg hb, if_neg hb, if_neg hb, nxB_app _ _ 4 (le_length _ _), nxL_app _ _ 4 (le_length _ _), nxE_app _ _ 4 (le_length _ _), num_le_small 4 _ (by omega)]
  exact ⟨nxB_app _ _ _ rfl, nxL_app _ _ _ rfl, nxE_app _ _ _ rfl⟩

/-- A number and a text, laid in every way. -/
def recL (x : Nat) (s : List UInt8) : List UInt8 := le 8 x ++ (le 2 s.length ++ (s ++ (le 2 x ++ (le 4 s.length ++ (s ++ (le 1 x ++ le 4 x))))))
theorem recL_length (x : Nat) (s : List UInt8) : (recL x s).length = 21 + 2 * s.length := by simp [recL, le_length]; omega
theorem recL_app (x : Nat) (s r : List UInt8) : recL x s ++ r = le 8 x ++ (le 2 s.length ++ (s ++ (le 2 x ++ (le 4 s.length ++ (s ++ (le 1 x ++ (le 4 x ++ r))))))) := by simp [recL, List.append_assoc]
/-- Numbers j, j + 1, .. j + d - 1. -/
def fromL (X : Nat → Nat) (T : Nat → List UInt8) : Nat → Nat → List UInt8
  | _, 0 => []
  | j, d + 1 => recL (X j) (T j) ++ fromL X T (j + 1) d
theorem fromL_snoc (X : Nat → Nat) (T : Nat → List UInt8) (d : Nat) : ∀ j, fromL X T j (d + 1) = fromL X T j d ++ recL (X (j + d)) (T (j + d)) := by
  induction d with
  | zero => intro j; simp [fromL]
  | succ d ih =>
    intro j
    rw [fromL, ih (j + 1), fromL, List.append_assoc, show j + 1 + d = j + (d + 1) by omega]
theorem fromL_length (X : Nat → Nat) (T : Nat → List UInt8) (hT : ∀ j, (T j).length ≤ 20) (d : Nat) : ∀ j, (fromL X T j d).length ≤ 61 * d := by
  induction d with
  | zero => intro j; simp [fromL]
  | succ d ih =>
    intro j
    rw [fromL, List.length_append, recL_length]
    have := ih (j + 1)
    have := hT j
    omega

theorem vl_app (n : Nat) (a r : List UInt8) (h : a.length = n) : vl n ⟨a ++ r, 0⟩ = num a := by
  unfold vl; rw [nxB_app _ _ _ h]
theorem tk_app (n : Nat) (a r : List UInt8) (h : a.length = n) : tk n ⟨a ++ r, 0⟩ = ⟨r, 0⟩ := by
  unfold tk; rw [nxL_app _ _ _ h, nxE_app _ _ _ h]
theorem vl_le (k n : Nat) (r : List UInt8) (h : n < 256 ^ k) : vl k ⟨le k n ++ r, 0⟩ = n := by
  rw [vl_app k _ _ (le_length _ _), num_le_small k n h]
theorem tk_le2 (k n : Nat) (r : List UInt8) : tk k ⟨le k n ++ r, 0⟩ = ⟨r, 0⟩ := tk_app k _ _ (le_length _ _)
theorem inB_iff (n m : Int) : inB n m = true ↔ 0 ≤ n ∧ n ≤ m := by simp [inB]
theorem n32_of (n : Int) (h : inB n 4294967295 = true) : ((n32 n : Nat) : Int) = n ∧ n32 n < 256 ^ 4 := by
  rw [inB_iff] at h
  unfold n32
  constructor
  · omega
  · have : (256 : Nat) ^ 4 = 4294967296 := by decide
    rw [this]; omega
theorem n16_of (n : Int) (h : inB n 65535 = true) : ((n16 n : Nat) : Int) = n ∧ n16 n < 256 ^ 2 := by
  rw [inB_iff] at h
  unfold n16
  constructor
  · omega
  · have : (256 : Nat) ^ 2 = 65536 := by decide
    rw [this]; omega
theorem n64_of (n : Int) (h : inB n 4611686018427387904 = true) : RowKit.wrap64 ((n64 n : Nat) : Int) = n ∧ n64 n < 256 ^ 8 := by
  rw [inB_iff] at h
  unfold n64
  constructor
  · unfold RowKit.wrap64; omega
  · have : (256 : Nat) ^ 8 = 18446744073709551616 := by decide
    rw [this]; omega
theorem qid_app (q : QidV) (r : List UInt8) (h : qidOk q = true) : qidV ⟨qidB q ++ r, 0⟩ = q ∧ qidW ⟨qidB q ++ r, 0⟩ = false ∧ qidS ⟨qidB q ++ r, 0⟩ = ⟨r, 0⟩ := by
  obtain ⟨d, v, p⟩ := q
  simp only [qidOk, Bool.and_eq_true] at h
  obtain ⟨hv, hp⟩ := h
  obtain ⟨hv1, hv2⟩ := n32_of v hv
  obtain ⟨hp1, hp2⟩ := n64_of p hp
  have e : qidB ⟨d, v, p⟩ ++ r = le 1 (bitQ d) ++ (le 4 (n32 v) ++ (le 8 (n64 p) ++ r)) := by simp [qidB, List.append_assoc]
  have hb : bitQ d < 256 ^ 1 := by cases d <;> decide
  rw [e]
  unfold qidV qidW qidS
  rw [vl_le 1 _ _ hb, tk_le2, vl_le 4 _ _ hv2, tk_le2, vl_le 8 _ _ hp2, tk_le2, hv1, hp1]
  refine ⟨?_, ?_, rfl⟩
  · cases d <;> rfl
  · cases d <;> rfl
theorem qs_app : ∀ (qs : List QidV) (r : List UInt8), qs.all qidOk = true → qsV qs.length ⟨qs.flatMap qidB ++ r, 0⟩ = qs ∧ qsW qs.length ⟨qs.flatMap qidB ++ r, 0⟩ = false ∧ qsS qs.length ⟨qs.flatMap qidB ++ r, 0⟩ = ⟨r, 0⟩
  | [], r, _ => ⟨rfl, rfl, rfl⟩
  | q :: qs, r, h => by
    simp only [List.all_cons, Bool.and_eq_true] at h
    have e : (q :: qs).flatMap qidB ++ r = qidB q ++ (qs.flatMap qidB ++ r) := by simp [List.append_assoc]
    obtain ⟨h1, h2, h3⟩ := qid_app q (qs.flatMap qidB ++ r) h.1
    obtain ⟨g1, g2, g3⟩ := qs_app qs r h.2
    rw [e]
    simp only [List.length_cons, qsV, qsW, qsS, h1, h2, h3, g1, g2, g3]
    exact ⟨trivial, rfl, trivial⟩
theorem qsr_app (qs : List QidV) (r : List UInt8) (h : qidsOk qs = true) : qsrV ⟨qidsB qs ++ r, 0⟩ = qs ∧ qsrW ⟨qidsB qs ++ r, 0⟩ = false ∧ qsrO ⟨qidsB qs ++ r, 0⟩ = false ∧ qsrS ⟨qidsB qs ++ r, 0⟩ = ⟨r, 0⟩ := by
  simp only [qidsOk, Bool.and_eq_true, decide_eq_true_eq] at h
  obtain ⟨h8, ha⟩ := h
  have e : qidsB qs ++ r = le 2 qs.length ++ (qs.flatMap qidB ++ r) := by unfold qidsB; rw [if_pos h8, List.append_assoc]
  have hp2 : (256 : Nat) ^ 2 = 65536 := by decide
  have hv : vl 2 ⟨le 2 qs.length ++ (qs.flatMap qidB ++ r), 0⟩ = qs.length := vl_le 2 _ _ (by rw [hp2]; omega)
  obtain ⟨g1, g2, g3⟩ := qs_app qs r ha
  rw [e]
  unfold qsrV qsrW qsrO qsrS
  rw [hv, tk_le2, if_pos h8, if_pos h8, if_pos h8, g1, g2, g3]
  exact ⟨rfl, rfl, decide_eq_false (by omega), rfl⟩
theorem txt_app (s r : List UInt8) (h : s.length ≤ 255) : txB (txtB s ++ r) 0 = s ∧ txL (txtB s ++ r) 0 = r ∧ txE (txtB s ++ r) 0 = 0 := by
  have e : txtB s ++ r = le 2 s.length ++ (s ++ r) := by unfold txtB; rw [if_pos h, List.append_assoc]
  rw [e]
  exact tx_app s r (by omega)

/-- The part of a type in t, put into t0. -/
def putT (k : Int) (t0 t : TellV) : TellV :=
  if k = 0 then { t0 with msize := t.msize } else if k = 1 then { t0 with iounit := t.iounit } else if k = 2 then { t0 with count := t.count } else if k = 3 then { t0 with code := t.code } else if k = 4 then { t0 with name := t.name } else if k = 5 then { t0 with qid := t.qid } else if k = 6 then { t0 with qids := t.qids } else if k = 7 then { t0 with data := t.data } else if k = 8 then { t0 with sqid := t.sqid, smode := t.smode, ssize := t.ssize, sname := t.sname } else t0
theorem part_app (k : Int) (hk : 0 ≤ k ∧ k ≤ 8) (t0 t : TellV) (r : List UInt8) (ov wr : Bool) (h : partOk k t = true) : stepR (t0, ov, wr, ⟨partB k t ++ r, 0⟩) k = (putT k t0 t, ov, wr, ⟨r, 0⟩) := by
  obtain ⟨h0, h8⟩ := hk
  rcases (by omega : k = 0 ∨ k = 1 ∨ k = 2 ∨ k = 3 ∨ k = 4 ∨ k = 5 ∨ k = 6 ∨ k = 7 ∨ k = 8) with rfl | rfl | rfl | rfl | rfl | rfl | rfl | rfl | rfl
  · obtain ⟨h1, h2⟩ := n32_of t.msize h
    have e : partB 0 t = le 4 (n32 t.msize) := rfl
    rw [e]
    simp [stepR, rpT, rpS, rpW, rpO, putT, vl_le 4 _ _ h2, tk_le2, h1]
  · obtain ⟨h1, h2⟩ := n32_of t.iounit h
    have e : partB 1 t = le 4 (n32 t.iounit) := rfl
    rw [e]
    simp [stepR, rpT, rpS, rpW, rpO, putT, vl_le 4 _ _ h2, tk_le2, h1]
  · obtain ⟨h1, h2⟩ := n32_of t.count h
    have e : partB 2 t = le 4 (n32 t.count) := rfl
    rw [e]
    simp [stepR, rpT, rpS, rpW, rpO, putT, vl_le 4 _ _ h2, tk_le2, h1]
  · obtain ⟨h1, h2⟩ := n16_of t.code h
    have e : partB 3 t = le 2 (n16 t.code) := rfl
    rw [e]
    simp [stepR, rpT, rpS, rpW, rpO, putT, vl_le 2 _ _ h2, tk_le2, h1]
  · have hs : t.name.length ≤ 255 := by
      have h' : decide (t.name.length ≤ 255) = true := h
      simpa using h'
    obtain ⟨g1, g2, g3⟩ := txt_app t.name r hs
    have e : partB 4 t = txtB t.name := rfl
    rw [e]
    simp [stepR, rpT, rpS, rpW, rpO, putT, g1, g2, g3]
  · obtain ⟨g1, g2, g3⟩ := qid_app t.qid r h
    have e : partB 5 t = qidB t.qid := rfl
    rw [e]
    simp [stepR, rpT, rpS, rpW, rpO, putT, g1, g2, g3]
  · obtain ⟨g1, g2, g3, g4⟩ := qsr_app t.qids r h
    have e : partB 6 t = qidsB t.qids := rfl
    rw [e]
    simp [stepR, rpT, rpS, rpW, rpO, putT, g1, g2, g3, g4]
  · have hs : t.data.length ≤ 1024 := by
      have h' : decide (t.data.length ≤ 1024) = true := h
      simpa using h'
    obtain ⟨g1, g2, g3⟩ := dt_app t.data r 1024 (by omega) (by omega)
    have e : partB 7 t ++ r = le 4 t.data.length ++ (t.data ++ r) := by
      show (le 4 t.data.length ++ t.data) ++ r = _
      rw [List.append_assoc]
    rw [e]
    simp [stepR, rpT, rpS, rpW, rpO, putT, g1, g2, g3]
  · have h' : statOk t.sqid t.smode t.ssize t.sname = true := h
    simp only [statOk, Bool.and_eq_true, decide_eq_true_eq] at h'
    obtain ⟨⟨⟨hq, hm⟩, hz⟩, hn⟩ := h'
    have e : partB 8 t ++ r = qidB t.sqid ++ (le 4 (n32 t.smode) ++ (le 8 (n64 t.ssize) ++ (txtB t.sname ++ r))) := by
      show statB _ _ _ _ ++ r = _
      simp [statB, List.append_assoc]
    obtain ⟨g1, g2, g3⟩ := qid_app t.sqid (le 4 (n32 t.smode) ++ (le 8 (n64 t.ssize) ++ (txtB t.sname ++ r))) hq
    obtain ⟨m1, m2⟩ := n32_of t.smode hm
    obtain ⟨z1, z2⟩ := n64_of t.ssize hz
    obtain ⟨x1, x2, x3⟩ := txt_app t.sname r hn
    rw [e]
    simp [stepR, rpT, rpS, rpW, rpO, putT, g1, g2, statM, statZ, statN, statS, g3, vl_le 4 _ _ m2, tk_le2, m1, vl_le 8 _ _ z2, z1, x1, x2, x3]

/-- A reply that may be is read as it was. -/
theorem packL_take (k t : Nat) (b : List UInt8) : (packL k t b).take 7 = le 4 (7 + b.length) ++ (le 1 k ++ (le 2 t ++ [])) ∧ (packL k t b).drop 7 = b := by
  have e : packL k t b = (le 4 (7 + b.length) ++ (le 1 k ++ le 2 t)) ++ b := by simp [packL, List.append_assoc]
  have hl : (le 4 (7 + b.length) ++ (le 1 k ++ le 2 t)).length = 7 := by simp [le_length]
  rw [e]
  exact ⟨by rw [List.take_left' hl]; simp, List.drop_left' hl⟩
theorem kinds_small (k : Int) (h : kindsW.contains k = true) : 0 ≤ k ∧ k ≤ 127 := by
  have : ∀ x ∈ kindsW, 0 ≤ x ∧ x ≤ 127 := by decide
  exact this k (by simpa using h)
theorem foldR_app (t t0 : TellV) : ∀ (p : List Int), p ∈ ([[0, 4], [5], [3], [], [6], [5, 1], [7], [2], [8]] : List (List Int)) → (p.foldl stepT (t, [], true)).2.2 = true → p.foldl stepR (t0, false, false, ⟨(p.foldl stepT (t, [], true)).2.1, 0⟩) = (p.foldl (fun x k => putT k x t) t0, false, false, ⟨[], 0⟩) := by
  intro p hp h
  simp only [List.mem_cons, List.not_mem_nil, or_false] at hp
  have one : ∀ k : Int, 0 ≤ k ∧ k ≤ 8 → partOk k t = true → stepR (t0, false, false, ⟨partB k t, 0⟩) k = (putT k t0 t, false, false, ⟨[], 0⟩) := fun k hk ho => by
    have := part_app k hk t0 t [] false false ho
    rwa [List.append_nil] at this
  rcases hp with rfl | rfl | rfl | rfl | rfl | rfl | rfl | rfl | rfl
  · simp only [List.foldl_cons, List.foldl_nil, stepT, Bool.true_and, Bool.and_eq_true, List.nil_append] at h ⊢
    rw [part_app 0 (by omega) t0 t _ false false h.1]
    have := part_app 4 (by omega) (putT 0 t0 t) t [] false false h.2
    rwa [List.append_nil] at this
  · simp only [List.foldl_cons, List.foldl_nil, stepT, Bool.true_and, List.nil_append] at h ⊢
    exact one 5 (by omega) h
  · simp only [List.foldl_cons, List.foldl_nil, stepT, Bool.true_and, List.nil_append] at h ⊢
    exact one 3 (by omega) h
  · rfl
  · simp only [List.foldl_cons, List.foldl_nil, stepT, Bool.true_and, List.nil_append] at h ⊢
    exact one 6 (by omega) h
  · simp only [List.foldl_cons, List.foldl_nil, stepT, Bool.true_and, Bool.and_eq_true, List.nil_append] at h ⊢
    rw [part_app 5 (by omega) t0 t _ false false h.1]
    have := part_app 1 (by omega) (putT 5 t0 t) t [] false false h.2
    rwa [List.append_nil] at this
  · simp only [List.foldl_cons, List.foldl_nil, stepT, Bool.true_and, List.nil_append] at h ⊢
    exact one 7 (by omega) h
  · simp only [List.foldl_cons, List.foldl_nil, stepT, Bool.true_and, List.nil_append] at h ⊢
    exact one 2 (by omega) h
  · simp only [List.foldl_cons, List.foldl_nil, stepT, Bool.true_and, List.nil_append] at h ⊢
    exact one 8 (by omega) h
theorem sameQs_nil (l : List QidV) : sameQs l [] = true ↔ l = [] := ⟨fun h => sameQs_eq l [] h, fun h => by rw [h]; rfl⟩
/-- What is not laid is nothing: the parts put into a bare reply are the reply. -/
theorem put_all (t : TellV) : ∀ (p : List Int) (ok : Bool), p ∈ ([[0, 4], [5], [3], [], [6], [5, 1], [7], [2], [8]] : List (List Int)) → sameT (p.foldl stepT (t, [], ok)).1 (bareT t.kind t.tag) = true → p.foldl (fun x k => putT k x t) (bareT t.kind t.tag) = t := by
  intro p ok hp h
  obtain ⟨kind, tag, code, msize, iounit, count, name, ⟨qd, qv, qp⟩, qids, data, ⟨sd, sv, sp⟩, smode, ssize, sname⟩ := t
  simp only [List.mem_cons, List.not_mem_nil, or_false] at hp
  rcases hp with rfl | rfl | rfl | rfl | rfl | rfl | rfl | rfl | rfl
  all_goals
    simp only [List.foldl_cons, List.foldl_nil, stepT, partT, putT, sameT, bareT, qidZ] at h ⊢
    simp [-List.length_eq_zero_iff] at h
    try simp only [sameQs_nil] at h
    simp [h]
theorem read_write (t : TellV) (h : layOk t = true) (hd : t.data.length ≤ 1000000) : readR (packL (n8 t.kind) (n16 t.tag) (layB t)) = (t, 0) := by
  have h0 := h
  unfold layOk at h
  rw [Bool.and_eq_true] at h
  obtain ⟨h1, h2⟩ := h
  have hmem := partsM_mem t.kind
  have hlen := layB_len t hd
  have hfold : ∀ (p : List Int) (b : Bool), (p.foldl stepT (t, [], b)).2.2 = true → b = true := by
    intro p
    suffices ∀ (s : TellV × List UInt8 × Bool), (p.foldl stepT s).2.2 = true → s.2.2 = true from fun b => this (t, [], b)
    induction p with
    | nil => intro s h; exact h
    | cons k ks ih => intro s h; have := ih _ h; simp only [stepT, Bool.and_eq_true] at this; exact this.1
  have hb : (kindsW.contains t.kind && inB t.tag 65535) = true := hfold _ _ h1
  have hkt := hb
  rw [Bool.and_eq_true] at hkt
  obtain ⟨hk, ht⟩ := hkt
  obtain ⟨hk0, hk1⟩ := kinds_small t.kind hk
  obtain ⟨ht1, ht2⟩ := n16_of t.tag ht
  have hk8 : ((n8 t.kind : Nat) : Int) = t.kind := by unfold n8; omega
  have hk8l : n8 t.kind < 256 ^ 1 := by unfold n8; simp; omega
  have hS : layS t = (partsM t.kind).foldl stepT (t, [], true) := by unfold layS lay0; rw [hb]
  have hp4 : (256 : Nat) ^ 4 = 4294967296 := by decide
  obtain ⟨htk, hdr⟩ := packL_take (n8 t.kind) (n16 t.tag) (layB t)
  have hv1 : vl 4 ⟨(packL (n8 t.kind) (n16 t.tag) (layB t)).take 7, 0⟩ = 7 + (layB t).length := by rw [htk]; exact vl_le 4 _ _ (by rw [hp4]; omega)
  have hs1 : tk 4 ⟨(packL (n8 t.kind) (n16 t.tag) (layB t)).take 7, 0⟩ = ⟨le 1 (n8 t.kind) ++ (le 2 (n16 t.tag) ++ []), 0⟩ := by rw [htk, tk_le2]
  have hv2 : vl 1 (tk 4 ⟨(packL (n8 t.kind) (n16 t.tag) (layB t)).take 7, 0⟩) = n8 t.kind := by rw [hs1]; exact vl_le 1 _ _ hk8l
  have hv3 : vl 2 (tk 1 (tk 4 ⟨(packL (n8 t.kind) (n16 t.tag) (layB t)).take 7, 0⟩)) = n16 t.tag := by rw [hs1, tk_le2]; exact vl_le 2 _ _ ht2
  have hpl : (packL (n8 t.kind) (n16 t.tag) (layB t)).length = 7 + (layB t).length := by simp [packL, le_length]; omega
  have hX : readX (packL (n8 t.kind) (n16 t.tag) (layB t)) = (t, false, false, ⟨[], 0⟩) := by
    unfold readX
    rw [hv2, hv3, hdr, hk8, ht1]
    have := foldR_app t (bareT t.kind t.tag) (partsM t.kind) hmem (by rw [← hS]; exact h1)
    unfold layB
    rw [hS, this]
    rw [put_all t (partsM t.kind) true hmem (by rw [← hS]; exact h2)]
  unfold readR
  rw [if_neg (by omega), if_neg (by rw [hv1, hv2, hpl, hk8, hk]; simp), hX]
  simp [endE, h0]

/-- A reply whose numbers, texts and lists are in their bounds. -/
structure InT (u : TellV) : Prop where
  tag : inB u.tag 65535 = true
  code : inB u.code 65535 = true
  msize : inB u.msize 4294967295 = true
  iounit : inB u.iounit 4294967295 = true
  count : inB u.count 4294967295 = true
  name : u.name.length ≤ 255
  qid : qidOk u.qid = true
  qids : qidsOk u.qids = true
  data : u.data.length ≤ 1024
  stat : statOk u.sqid u.smode u.ssize u.sname = true
theorem own_ok_101 (tag code msize iounit count : Int) (name : List UInt8) (qid : QidV) (qids : List QidV) (data : List UInt8) (sqid : QidV) (smode ssize : Int) (sname : List UInt8) (h : InT ⟨101, tag, code, msize, iounit, count, name, qid, qids, data, sqid, smode, ssize, sname⟩) : layOk (ownT ⟨101, tag, code, msize, iounit, count, name, qid, qids, data, sqid, smode, ssize, sname⟩) = true := by
  obtain ⟨h1, h2, h3, h4, h5, h6, h7, h8, h9, h10⟩ := h
  simp only at h1 h2 h3 h4 h5 h6 h7 h8 h9 h10
  have hp : partsM 101 = [0, 4] := rfl
  have hk : (101 : Int) ∈ kindsW := by decide
  have f101 : hasM 101 101 = false := rfl
  have f122 : hasM 101 122 = true := rfl
  have f105 : hasM 101 105 = false := rfl
  have f99 : hasM 101 99 = false := rfl
  have f113 : hasM 101 113 = false := rfl
  have f108 : hasM 101 108 = false := rfl
  have f100 : hasM 101 100 = false := rfl
  have f115 : hasM 101 115 = false := rfl
  simp [ownT, layOk, layS, lay0, stepT, partT, partOk, hp, hk, f101, f122, f105, f99, f113, f108, f100, f115, h1, h2, h3, h4, h5, h6, h7, h8, h9, h10, sameT, bareT, sameQs, qidZ]
theorem own_ok_105 (tag code msize iounit count : Int) (name : List UInt8) (qid : QidV) (qids : List QidV) (data : List UInt8) (sqid : QidV) (smode ssize : Int) (sname : List UInt8) (h : InT ⟨105, tag, code, msize, iounit, count, name, qid, qids, data, sqid, smode, ssize, sname⟩) : layOk (ownT ⟨105, tag, code, msize, iounit, count, name, qid, qids, data, sqid, smode, ssize, sname⟩) = true := by
  obtain ⟨h1, h2, h3, h4, h5, h6, h7, h8, h9, h10⟩ := h
  simp only at h1 h2 h3 h4 h5 h6 h7 h8 h9 h10
  have hp : partsM 105 = [5] := rfl
  have hk : (105 : Int) ∈ kindsW := by decide
  have f101 : hasM 105 101 = false := rfl
  have f122 : hasM 105 122 = false := rfl
  have f105 : hasM 105 105 = false := rfl
  have f99 : hasM 105 99 = false := rfl
  have f113 : hasM 105 113 = true := rfl
  have f108 : hasM 105 108 = false := rfl
  have f100 : hasM 105 100 = false := rfl
  have f115 : hasM 105 115 = false := rfl
  simp [ownT, layOk, layS, lay0, stepT, partT, partOk, hp, hk, f101, f122, f105, f99, f113, f108, f100, f115, h1, h2, h3, h4, h5, h6, h7, h8, h9, h10, sameT, bareT, sameQs, qidZ]
theorem own_ok_107 (tag code msize iounit count : Int) (name : List UInt8) (qid : QidV) (qids : List QidV) (data : List UInt8) (sqid : QidV) (smode ssize : Int) (sname : List UInt8) (h : InT ⟨107, tag, code, msize, iounit, count, name, qid, qids, data, sqid, smode, ssize, sname⟩) : layOk (ownT ⟨107, tag, code, msize, iounit, count, name, qid, qids, data, sqid, smode, ssize, sname⟩) = true := by
  obtain ⟨h1, h2, h3, h4, h5, h6, h7, h8, h9, h10⟩ := h
  simp only at h1 h2 h3 h4 h5 h6 h7 h8 h9 h10
  have hp : partsM 107 = [3] := rfl
  have hk : (107 : Int) ∈ kindsW := by decide
  have f101 : hasM 107 101 = true := rfl
  have f122 : hasM 107 122 = false := rfl
  have f105 : hasM 107 105 = false := rfl
  have f99 : hasM 107 99 = false := rfl
  have f113 : hasM 107 113 = false := rfl
  have f108 : hasM 107 108 = false := rfl
  have f100 : hasM 107 100 = false := rfl
  have f115 : hasM 107 115 = false := rfl
  simp [ownT, layOk, layS, lay0, stepT, partT, partOk, hp, hk, f101, f122, f105, f99, f113, f108, f100, f115, h1, h2, h3, h4, h5, h6, h7, h8, h9, h10, sameT, bareT, sameQs, qidZ]
theorem own_ok_109 (tag code msize iounit count : Int) (name : List UInt8) (qid : QidV) (qids : List QidV) (data : List UInt8) (sqid : QidV) (smode ssize : Int) (sname : List UInt8) (h : InT ⟨109, tag, code, msize, iounit, count, name, qid, qids, data, sqid, smode, ssize, sname⟩) : layOk (ownT ⟨109, tag, code, msize, iounit, count, name, qid, qids, data, sqid, smode, ssize, sname⟩) = true := by
  obtain ⟨h1, h2, h3, h4, h5, h6, h7, h8, h9, h10⟩ := h
  simp only at h1 h2 h3 h4 h5 h6 h7 h8 h9 h10
  have hp : partsM 109 = [] := rfl
  have hk : (109 : Int) ∈ kindsW := by decide
  have f101 : hasM 109 101 = false := rfl
  have f122 : hasM 109 122 = false := rfl
  have f105 : hasM 109 105 = false := rfl
  have f99 : hasM 109 99 = false := rfl
  have f113 : hasM 109 113 = false := rfl
  have f108 : hasM 109 108 = false := rfl
  have f100 : hasM 109 100 = false := rfl
  have f115 : hasM 109 115 = false := rfl
  simp [ownT, layOk, layS, lay0, stepT, partT, partOk, hp, hk, f101, f122, f105, f99, f113, f108, f100, f115, h1, h2, h3, h4, h5, h6, h7, h8, h9, h10, sameT, bareT, sameQs, qidZ]
theorem own_ok_111 (tag code msize iounit count : Int) (name : List UInt8) (qid : QidV) (qids : List QidV) (data : List UInt8) (sqid : QidV) (smode ssize : Int) (sname : List UInt8) (h : InT ⟨111, tag, code, msize, iounit, count, name, qid, qids, data, sqid, smode, ssize, sname⟩) : layOk (ownT ⟨111, tag, code, msize, iounit, count, name, qid, qids, data, sqid, smode, ssize, sname⟩) = true := by
  obtain ⟨h1, h2, h3, h4, h5, h6, h7, h8, h9, h10⟩ := h
  simp only at h1 h2 h3 h4 h5 h6 h7 h8 h9 h10
  have hp : partsM 111 = [6] := rfl
  have hk : (111 : Int) ∈ kindsW := by decide
  have f101 : hasM 111 101 = false := rfl
  have f122 : hasM 111 122 = false := rfl
  have f105 : hasM 111 105 = false := rfl
  have f99 : hasM 111 99 = false := rfl
  have f113 : hasM 111 113 = false := rfl
  have f108 : hasM 111 108 = true := rfl
  have f100 : hasM 111 100 = false := rfl
  have f115 : hasM 111 115 = false := rfl
  simp [ownT, layOk, layS, lay0, stepT, partT, partOk, hp, hk, f101, f122, f105, f99, f113, f108, f100, f115, h1, h2, h3, h4, h5, h6, h7, h8, h9, h10, sameT, bareT, sameQs, qidZ]
theorem own_ok_113 (tag code msize iounit count : Int) (name : List UInt8) (qid : QidV) (qids : List QidV) (data : List UInt8) (sqid : QidV) (smode ssize : Int) (sname : List UInt8) (h : InT ⟨113, tag, code, msize, iounit, count, name, qid, qids, data, sqid, smode, ssize, sname⟩) : layOk (ownT ⟨113, tag, code, msize, iounit, count, name, qid, qids, data, sqid, smode, ssize, sname⟩) = true := by
  obtain ⟨h1, h2, h3, h4, h5, h6, h7, h8, h9, h10⟩ := h
  simp only at h1 h2 h3 h4 h5 h6 h7 h8 h9 h10
  have hp : partsM 113 = [5, 1] := rfl
  have hk : (113 : Int) ∈ kindsW := by decide
  have f101 : hasM 113 101 = false := rfl
  have f122 : hasM 113 122 = false := rfl
  have f105 : hasM 113 105 = true := rfl
  have f99 : hasM 113 99 = false := rfl
  have f113 : hasM 113 113 = true := rfl
  have f108 : hasM 113 108 = false := rfl
  have f100 : hasM 113 100 = false := rfl
  have f115 : hasM 113 115 = false := rfl
  simp [ownT, layOk, layS, lay0, stepT, partT, partOk, hp, hk, f101, f122, f105, f99, f113, f108, f100, f115, h1, h2, h3, h4, h5, h6, h7, h8, h9, h10, sameT, bareT, sameQs, qidZ]
theorem own_ok_115 (tag code msize iounit count : Int) (name : List UInt8) (qid : QidV) (qids : List QidV) (data : List UInt8) (sqid : QidV) (smode ssize : Int) (sname : List UInt8) (h : InT ⟨115, tag, code, msize, iounit, count, name, qid, qids, data, sqid, smode, ssize, sname⟩) : layOk (ownT ⟨115, tag, code, msize, iounit, count, name, qid, qids, data, sqid, smode, ssize, sname⟩) = true := by
  obtain ⟨h1, h2, h3, h4, h5, h6, h7, h8, h9, h10⟩ := h
  simp only at h1 h2 h3 h4 h5 h6 h7 h8 h9 h10
  have hp : partsM 115 = [5, 1] := rfl
  have hk : (115 : Int) ∈ kindsW := by decide
  have f101 : hasM 115 101 = false := rfl
  have f122 : hasM 115 122 = false := rfl
  have f105 : hasM 115 105 = true := rfl
  have f99 : hasM 115 99 = false := rfl
  have f113 : hasM 115 113 = true := rfl
  have f108 : hasM 115 108 = false := rfl
  have f100 : hasM 115 100 = false := rfl
  have f115 : hasM 115 115 = false := rfl
  simp [ownT, layOk, layS, lay0, stepT, partT, partOk, hp, hk, f101, f122, f105, f99, f113, f108, f100, f115, h1, h2, h3, h4, h5, h6, h7, h8, h9, h10, sameT, bareT, sameQs, qidZ]
theorem own_ok_117 (tag code msize iounit count : Int) (name : List UInt8) (qid : QidV) (qids : List QidV) (data : List UInt8) (sqid : QidV) (smode ssize : Int) (sname : List UInt8) (h : InT ⟨117, tag, code, msize, iounit, count, name, qid, qids, data, sqid, smode, ssize, sname⟩) : layOk (ownT ⟨117, tag, code, msize, iounit, count, name, qid, qids, data, sqid, smode, ssize, sname⟩) = true := by
  obtain ⟨h1, h2, h3, h4, h5, h6, h7, h8, h9, h10⟩ := h
  simp only at h1 h2 h3 h4 h5 h6 h7 h8 h9 h10
  have hp : partsM 117 = [7] := rfl
  have hk : (117 : Int) ∈ kindsW := by decide
  have f101 : hasM 117 101 = false := rfl
  have f122 : hasM 117 122 = false := rfl
  have f105 : hasM 117 105 = false := rfl
  have f99 : hasM 117 99 = false := rfl
  have f113 : hasM 117 113 = false := rfl
  have f108 : hasM 117 108 = false := rfl
  have f100 : hasM 117 100 = true := rfl
  have f115 : hasM 117 115 = false := rfl
  simp [ownT, layOk, layS, lay0, stepT, partT, partOk, hp, hk, f101, f122, f105, f99, f113, f108, f100, f115, h1, h2, h3, h4, h5, h6, h7, h8, h9, h10, sameT, bareT, sameQs, qidZ]
theorem own_ok_119 (tag code msize iounit count : Int) (name : List UInt8) (qid : QidV) (qids : List QidV) (data : List UInt8) (sqid : QidV) (smode ssize : Int) (sname : List UInt8) (h : InT ⟨119, tag, code, msize, iounit, count, name, qid, qids, data, sqid, smode, ssize, sname⟩) : layOk (ownT ⟨119, tag, code, msize, iounit, count, name, qid, qids, data, sqid, smode, ssize, sname⟩) = true := by
  obtain ⟨h1, h2, h3, h4, h5, h6, h7, h8, h9, h10⟩ := h
  simp only at h1 h2 h3 h4 h5 h6 h7 h8 h9 h10
  have hp : partsM 119 = [2] := rfl
  have hk : (119 : Int) ∈ kindsW := by decide
  have f101 : hasM 119 101 = false := rfl
  have f122 : hasM 119 122 = false := rfl
  have f105 : hasM 119 105 = false := rfl
  have f99 : hasM 119 99 = true := rfl
  have f113 : hasM 119 113 = false := rfl
  have f108 : hasM 119 108 = false := rfl
  have f100 : hasM 119 100 = false := rfl
  have f115 : hasM 119 115 = false := rfl
  simp [ownT, layOk, layS, lay0, stepT, partT, partOk, hp, hk, f101, f122, f105, f99, f113, f108, f100, f115, h1, h2, h3, h4, h5, h6, h7, h8, h9, h10, sameT, bareT, sameQs, qidZ]
theorem own_ok_121 (tag code msize iounit count : Int) (name : List UInt8) (qid : QidV) (qids : List QidV) (data : List UInt8) (sqid : QidV) (smode ssize : Int) (sname : List UInt8) (h : InT ⟨121, tag, code, msize, iounit, count, name, qid, qids, data, sqid, smode, ssize, sname⟩) : layOk (ownT ⟨121, tag, code, msize, iounit, count, name, qid, qids, data, sqid, smode, ssize, sname⟩) = true := by
  obtain ⟨h1, h2, h3, h4, h5, h6, h7, h8, h9, h10⟩ := h
  simp only at h1 h2 h3 h4 h5 h6 h7 h8 h9 h10
  have hp : partsM 121 = [] := rfl
  have hk : (121 : Int) ∈ kindsW := by decide
  have f101 : hasM 121 101 = false := rfl
  have f122 : hasM 121 122 = false := rfl
  have f105 : hasM 121 105 = false := rfl
  have f99 : hasM 121 99 = false := rfl
  have f113 : hasM 121 113 = false := rfl
  have f108 : hasM 121 108 = false := rfl
  have f100 : hasM 121 100 = false := rfl
  have f115 : hasM 121 115 = false := rfl
  simp [ownT, layOk, layS, lay0, stepT, partT, partOk, hp, hk, f101, f122, f105, f99, f113, f108, f100, f115, h1, h2, h3, h4, h5, h6, h7, h8, h9, h10, sameT, bareT, sameQs, qidZ]
theorem own_ok_123 (tag code msize iounit count : Int) (name : List UInt8) (qid : QidV) (qids : List QidV) (data : List UInt8) (sqid : QidV) (smode ssize : Int) (sname : List UInt8) (h : InT ⟨123, tag, code, msize, iounit, count, name, qid, qids, data, sqid, smode, ssize, sname⟩) : layOk (ownT ⟨123, tag, code, msize, iounit, count, name, qid, qids, data, sqid, smode, ssize, sname⟩) = true := by
  obtain ⟨h1, h2, h3, h4, h5, h6, h7, h8, h9, h10⟩ := h
  simp only at h1 h2 h3 h4 h5 h6 h7 h8 h9 h10
  have hp : partsM 123 = [] := rfl
  have hk : (123 : Int) ∈ kindsW := by decide
  have f101 : hasM 123 101 = false := rfl
  have f122 : hasM 123 122 = false := rfl
  have f105 : hasM 123 105 = false := rfl
  have f99 : hasM 123 99 = false := rfl
  have f113 : hasM 123 113 = false := rfl
  have f108 : hasM 123 108 = false := rfl
  have f100 : hasM 123 100 = false := rfl
  have f115 : hasM 123 115 = false := rfl
  simp [ownT, layOk, layS, lay0, stepT, partT, partOk, hp, hk, f101, f122, f105, f99, f113, f108, f100, f115, h1, h2, h3, h4, h5, h6, h7, h8, h9, h10, sameT, bareT, sameQs, qidZ]
theorem own_ok_125 (tag code msize iounit count : Int) (name : List UInt8) (qid : QidV) (qids : List QidV) (data : List UInt8) (sqid : QidV) (smode ssize : Int) (sname : List UInt8) (h : InT ⟨125, tag, code, msize, iounit, count, name, qid, qids, data, sqid, smode, ssize, sname⟩) : layOk (ownT ⟨125, tag, code, msize, iounit, count, name, qid, qids, data, sqid, smode, ssize, sname⟩) = true := by
  obtain ⟨h1, h2, h3, h4, h5, h6, h7, h8, h9, h10⟩ := h
  simp only at h1 h2 h3 h4 h5 h6 h7 h8 h9 h10
  have hp : partsM 125 = [8] := rfl
  have hk : (125 : Int) ∈ kindsW := by decide
  have f101 : hasM 125 101 = false := rfl
  have f122 : hasM 125 122 = false := rfl
  have f105 : hasM 125 105 = false := rfl
  have f99 : hasM 125 99 = false := rfl
  have f113 : hasM 125 113 = false := rfl
  have f108 : hasM 125 108 = false := rfl
  have f100 : hasM 125 100 = false := rfl
  have f115 : hasM 125 115 = true := rfl
  simp [ownT, layOk, layS, lay0, stepT, partT, partOk, hp, hk, f101, f122, f105, f99, f113, f108, f100, f115, h1, h2, h3, h4, h5, h6, h7, h8, h9, h10, sameT, bareT, sameQs, qidZ]
theorem own_ok_127 (tag code msize iounit count : Int) (name : List UInt8) (qid : QidV) (qids : List QidV) (data : List UInt8) (sqid : QidV) (smode ssize : Int) (sname : List UInt8) (h : InT ⟨127, tag, code, msize, iounit, count, name, qid, qids, data, sqid, smode, ssize, sname⟩) : layOk (ownT ⟨127, tag, code, msize, iounit, count, name, qid, qids, data, sqid, smode, ssize, sname⟩) = true := by
  obtain ⟨h1, h2, h3, h4, h5, h6, h7, h8, h9, h10⟩ := h
  simp only at h1 h2 h3 h4 h5 h6 h7 h8 h9 h10
  have hp : partsM 127 = [] := rfl
  have hk : (127 : Int) ∈ kindsW := by decide
  have f101 : hasM 127 101 = false := rfl
  have f122 : hasM 127 122 = false := rfl
  have f105 : hasM 127 105 = false := rfl
  have f99 : hasM 127 99 = false := rfl
  have f113 : hasM 127 113 = false := rfl
  have f108 : hasM 127 108 = false := rfl
  have f100 : hasM 127 100 = false := rfl
  have f115 : hasM 127 115 = false := rfl
  simp [ownT, layOk, layS, lay0, stepT, partT, partOk, hp, hk, f101, f122, f105, f99, f113, f108, f100, f115, h1, h2, h3, h4, h5, h6, h7, h8, h9, h10, sameT, bareT, sameQs, qidZ]
theorem own_ok (u : TellV) (hk : u.kind ∈ kindsW) (h : InT u) : layOk (ownT u) = true := by
  obtain ⟨kind, tag, code, msize, iounit, count, name, qid, qids, data, sqid, smode, ssize, sname⟩ := u
  simp only [kindsW, List.mem_cons, List.not_mem_nil, or_false] at hk
  rcases hk with rfl | rfl | rfl | rfl | rfl | rfl | rfl | rfl | rfl | rfl | rfl | rfl | rfl
  · exact own_ok_101 tag code msize iounit count name qid qids data sqid smode ssize sname h
  · exact own_ok_105 tag code msize iounit count name qid qids data sqid smode ssize sname h
  · exact own_ok_107 tag code msize iounit count name qid qids data sqid smode ssize sname h
  · exact own_ok_109 tag code msize iounit count name qid qids data sqid smode ssize sname h
  · exact own_ok_111 tag code msize iounit count name qid qids data sqid smode ssize sname h
  · exact own_ok_113 tag code msize iounit count name qid qids data sqid smode ssize sname h
  · exact own_ok_115 tag code msize iounit count name qid qids data sqid smode ssize sname h
  · exact own_ok_117 tag code msize iounit count name qid qids data sqid smode ssize sname h
  · exact own_ok_119 tag code msize iounit count name qid qids data sqid smode ssize sname h
  · exact own_ok_121 tag code msize iounit count name qid qids data sqid smode ssize sname h
  · exact own_ok_123 tag code msize iounit count name qid qids data sqid smode ssize sname h
  · exact own_ok_125 tag code msize iounit count name qid qids data sqid smode ssize sname h
  · exact own_ok_127 tag code msize iounit count name qid qids data sqid smode ssize sname h
theorem kindB_mem (n : Int) : kindB n ∈ kindsW := by
  have h0 := Int.emod_nonneg (up0 n) (show (13 : Int) ≠ 0 by omega)
  have h1 := Int.emod_lt_of_pos (up0 n) (show (0 : Int) < 13 by omega)
  have hl : kindsW.length = 13 := rfl
  unfold kindB
  rw [List.getElem?_eq_getElem (by omega)]
  exact List.getElem_mem _
theorem mod_in (n : Int) (m : Int) (h : 0 < m) : inB (up0 n % m) (m - 1) = true := by
  rw [inB_iff]
  have h0 := Int.emod_nonneg (up0 n) (show m ≠ 0 by omega)
  have h1 := Int.emod_lt_of_pos (up0 n) h
  omega
theorem goodQ_ok (q : QidV) : qidOk (goodQ q) = true := by
  unfold qidOk goodQ
  rw [Bool.and_eq_true]
  exact ⟨mod_in _ 4294967296 (by omega), mod_in _ 4611686018427387905 (by omega)⟩
theorem good_in (t : TellV) : InT (goodU18 t) where
  tag := mod_in _ 65536 (by omega)
  code := mod_in _ 65536 (by omega)
  msize := mod_in _ 4294967296 (by omega)
  iounit := mod_in _ 4294967296 (by omega)
  count := mod_in _ 4294967296 (by omega)
  name := by simp [goodU18]; omega
  qid := goodQ_ok _
  qids := by
    unfold qidsOk goodU18
    rw [Bool.and_eq_true]
    refine ⟨by simp; omega, ?_⟩
    rw [List.all_eq_true]
    intro q hq
    obtain ⟨p, _, rfl⟩ := List.mem_map.1 hq
    exact goodQ_ok p
  data := by simp [goodU18]; omega
  stat := by
    unfold statOk goodU18
    simp only [Bool.and_eq_true, decide_eq_true_eq]
    exact ⟨⟨⟨goodQ_ok _, mod_in _ 4294967296 (by omega)⟩, mod_in _ 4611686018427387905 (by omega)⟩, by simp; omega⟩
theorem good_ok18 (t : TellV) : layOk (goodT t) = true := own_ok _ (kindB_mem t.kind) (good_in t)
theorem sameT_refl (t : TellV) : sameT t t = true := by simp [sameT, sameQs_refl]
end Go.Proofs.Ytoplkglnjgllnaa
