/-
  Layer 5: the reference's Next.
-/
import Derived.Test.YtojbehblgmpbgaaPipeR
namespace Go.Proofs.Ytojbehblgmpbgaa
open Go.RowKit Go.Conc
set_option linter.unusedVariables false
set_option linter.unusedSimpArgs false

/-- What the reference's Next leaves. -/
def RNext (AL : Option Addr) (nL cL : Nat) (AS : Option Addr) (nS cS at_ : Nat) (gs : List Int) (L : List (List UInt8)) (w : World) (e : Ending) (w' : World) : Prop :=
  (L = [] ∧ e = .returned (.tuple #[.agg #[.slice AL nL cL, .slice AS nS cS, .int .i64 at_], .string (st []), .bool false]) ∧ Below w.heap.size w w') ∨
  (L ≠ [] ∧ ∃ A' n' c' L' out, e = .returned (.tuple #[.agg #[.slice A' n' c', .slice AS nS cS, .int .i64 (at_ + 1 : Nat)], .string (st out), .bool true]) ∧ RdV w' w'.heap.size A' n' (sv L') ∧ Hid (out = pieceOf gs (at_ % nS) L) ∧ Hid (L' = nextL gs (at_ % nS) L) ∧ Below w.heap.size w w' ∧ ∀ ad, A' = some ad → 0 < n' → w.heap.size ≤ ad.block)

/-- What is left of a row, from its place q on. -/
structure Tl (w : World) (base g n c q : Nat) (A : Option Addr) (m d : Nat) (cur : List (List UInt8)) : Prop where
  own : ∃ full, OwV w base 9 (some ⟨g, 0, none⟩) n c (sv full) ∧ full.drop q = cur
  len : cur.length = m
  sum : q + m = n
  cap : d = c - q
  at_ : 0 < m → A = some ⟨g, q, none⟩
  le : n ≤ c

section
variable {w w' : World} {base g n c q : Nat} {A : Option Addr} {m d : Nat} {cur : List (List UInt8)}
theorem Tl.rd (h : Tl w base g n c q A m d cur) : RdV w w.heap.size A m (sv cur) := by
  obtain ⟨full, how, hd⟩ := h.own
  refine ⟨by rw [sv_length, h.len, Nat.mul_one], fun h0 => ⟨⟨g, q, none⟩, h.at_ h0, (Own.lt how g rfl).2, fun j u hu => ?_⟩⟩
  have := Own.cells how (g := g) rfl (q + j) u (by
    rw [sv_at] at hu ⊢
    rw [← hd, List.getElem?_drop] at hu
    exact hu)
  rw [add_plain] at this ⊢
  rw [Nat.zero_add] at this
  exact this
theorem Tl.keeps {G : Nat → Prop} (h : Tl w base g n c q A m d cur) (k : Keeps G w w') (hG : ¬ G g) : Tl w' base g n c q A m d cur := by
  obtain ⟨full, how, hd⟩ := h.own
  exact { h with own := ⟨full, Own.keepsAt how k (fun k hk => by have : g = k := Option.some.inj hk; rw [← this]; exact hG), hd⟩ }
/-- The first text. -/
theorem Tl.head (h : Tl w base g n c q A m d cur) {x : List UInt8} {rest : List (List UInt8)} (hc : cur = x :: rest) : A = some ⟨g, q, none⟩ ∧ 0 < m ∧ w.cell? ⟨g, q, none⟩ = some (.string (st x)) ∧ w.frozen? ⟨g, q, none⟩ = false ∧
    ∀ t, Tl (w.setCell ⟨g, q, none⟩ (.string (st t))) base g n c q A m d (t :: rest) := by
  subst hc
  have hm : 0 < m := by have := h.len; simp at this; omega
  have hq : q < n := by have := h.sum; omega
  obtain ⟨full, how, hd⟩ := h.own
  have hfl : full.length = n := by have := how.len; rw [sv_length] at this; exact this
  have hx : full[q]? = some x := by
    have : (full.drop q)[0]? = some x := by rw [hd]; rfl
    rw [List.getElem?_drop] at this
    simpa using this
  have hcell := Own.cells how (g := g) rfl q (.string (st x)) (by rw [sv_at, hx]; rfl)
  rw [add_plain, Nat.zero_add] at hcell
  refine ⟨h.at_ hm, hm, hcell, (Own.store how q hq (.string (st x))).2.1, fun t => ?_⟩
  have hst := (Own.store how q hq (.string (st t))).2.2.1
  refine { h with own := ⟨full.set q t, ?_, ?_⟩, len := by have := h.len; simpa using this }
  · show Own _ _ _ _ _ _ (sv (full.set q t))
    rw [sv_set]; exact hst
  · have h1 : full.drop (q + 1) = rest := by rw [← List.drop_drop, hd]; rfl
    rw [List.drop_eq_getElem_cons (by rw [List.length_set]; omega), List.getElem_set_self, List.drop_set_of_lt (by omega), h1]
/-- The first text is away. -/
theorem Tl.next (h : Tl w base g n c q A m d cur) {x : List UInt8} {rest : List (List UInt8)} (hc : cur = x :: rest) : Tl w base g n c (q + 1) (if d = 1 then A else A.map (fun a => a.add 1)) (m - 1) (d - 1) rest := by
  subst hc
  have hm : 0 < m := by have := h.len; simp at this; omega
  obtain ⟨full, how, hd⟩ := h.own
  have hle := h.le
  have hsum := h.sum
  have hcap := h.cap
  refine ⟨⟨full, how, by rw [← List.drop_drop, hd]; rfl⟩, by have := h.len; simp at this; omega, by omega, by omega, fun h0 => ?_, hle⟩
  rw [if_neg (by omega), h.at_ hm]
  show some (Addr.add ⟨g, q, none⟩ 1) = _
  rw [add_plain]
end

theorem eat_one {j : Nat} {L : List (List UInt8)} (hL : GoodL L) {a : UInt8} {t : List UInt8} {rest : List (List UInt8)} (h : eat j L = (a :: t) :: rest) : eat (j + 1) L = absL t rest ∧ L.flatten.take (j + 1) = L.flatten.take j ++ [a] := by
  refine ⟨?_, ?_⟩
  · rw [eat_add j 1 L (fun l hl => (hL.2 l hl).1), h, eat_cons, eat_zero]
  · have h1 := eat_flat j L
    rw [h] at h1
    have h2 : L.flatten[j]? = some a := by
      have : (L.flatten.drop j)[0]? = some a := by rw [← h1]; rfl
      rw [List.getElem?_drop] at this
      simpa using this
    rw [List.take_add_one, h2]; rfl

/-- A string's length. -/
def szOf : Value → Nat
  | .string s => s.size
  | _ => 0
/-- The loop's relation. -/
def RnRel (w3 : World) (base g n c : Nat) (L : List (List UInt8)) (m : Nat) (o v : Value) (wr : World) : Prop :=
  ∃ (j q : Nat) (A : Option Addr) (k d : Nat) (cur : List (List UInt8)) (out : List UInt8), o = .string (st out) ∧ v = .slice A k d ∧ j ≤ m ∧ out.length = j ∧ Hid (out = L.flatten.take j) ∧ Hid (cur = eat j L) ∧ Tl wr base g n c q A k d cur ∧ Keeps (Is g) w3 wr

set_option maxRecDepth 100000 in
set_option maxHeartbeats 4000000 in
theorem rNext_any (AL : Option Addr) (nL cL : Nat) (AS : Option Addr) (nS cS at_ : Nat) (gs : List Int) (L : List (List UInt8)) (w : World) (h : RdV w w.heap.size AL nL (sv L)) (hL : GoodL L) (hs : RdV w w.heap.size AS nS (iv gs)) (hgs : GoodS gs) (hat : at_ ≤ 1000) :
    Calls Try.prog 18 #[.agg #[.slice AL nL cL, .slice AS nS cS, .int .i64 at_]] w (RNext AL nL cL AS nS cS at_ gs L w) := by
  have hlen : L.length = nL := by rw [← sv_length]; exact h.len
  have hgl : gs.length = nS := by rw [← iv_length]; exact hs.len
  have hnL : nL ≤ 64 := by rw [← hlen]; exact hL.1
  have hnS : 1 ≤ nS := by rw [← hgl]; exact hgs.2.2.1
  have hnS6 : nS ≤ 6 := by rw [← hgl]; exact hgs.2.1
  have hB := Blk.new w 41 [.slice AL nL cL, .slice AS nS cS, .int .i64 at_]
  have hB2 := Blk.new (w.alloc (.cells #[.slice AL nL cL, .slice AS nS cS, .int .i64 at_] 41)) 41 [.slice none 0 0, .slice none 0 0, .int .i64 0]
  have hb1 : Below w.heap.size w (w.alloc (.cells #[.slice AL nL cL, .slice AS nS cS, .int .i64 at_] 41)) := (Below.refl _ _).alloc (Nat.le_refl _) _
  by_cases h0 : nL = 0
  · subst h0
    have hLe : L = [] := List.eq_nil_of_length_eq_zero hlen
    have HLe := Lib.hid hLe
    have e0 : ByteArray.mk #[] = st [] := rfl
    clear h hs hlen hLe hB hB2
    go_enter Try.func18, Try.ntmps18
    go_wp2
    exact bodyPost_ret (v := .tuple #[.agg #[.slice AL 0 cL, .slice AS nS cS, .int .i64 at_], .string (st []), .bool false]) (by simp [results, Try.results18, go_sem]; first | done | rfl) rfl (.inl ⟨HLe.out, rfl, hb1.alloc (by simp) _⟩)
  · have h0' : ((nL : Int) == 0) = false := by simpa using h0
    have hLne : L ≠ [] := by rintro rfl; simp at hlen; omega
    obtain ⟨w1, hw1⟩ : ∃ x, x = ((w.alloc (.cells #[.slice AL nL cL, .slice AS nS cS, .int .i64 at_] 41)).alloc (.cells #[.slice none 0 0, .slice none 0 0, .int .i64 0] 41)) := ⟨_, rfl⟩
    have hs1 : w1.heap.size = w.heap.size + 2 := by rw [hw1]; simp
    have hP1 : Blk w1 w.heap.size 41 [.slice AL nL cL, .slice AS nS cS, .int .i64 at_] := by rw [hw1]; exact hB.alloc _
    have hZ1 : Blk w1 (w.heap.size + 1) 41 [.slice none 0 0, .slice none 0 0, .int .i64 0] := by rw [hw1]; have := hB2; simpa using this
    have hb01 : Below w.heap.size w w1 := by rw [hw1]; exact hb1.alloc (by simp) _
    have hr1 := h.up hb01
    have hs1' := hs.up hb01
    obtain ⟨b, off, hAS, hbl, hcs⟩ := hs1'.ints (by omega)
    obtain ⟨r, hr⟩ : ∃ r, r = at_ % nS := ⟨_, rfl⟩
    have hrm : r < nS := by rw [hr]; exact Nat.mod_lt _ (by omega)
    obtain ⟨z, hz, kz⟩ := hcs r hrm
    have hz9 := hgs.2.2.2 z (List.mem_of_getElem? hz)
    obtain ⟨m, rfl⟩ : ∃ m : Nat, z = m := ⟨z.toNat, by omega⟩
    have hmodI : (at_ : Int) % nS = (r : Int) := by rw [hr, Int.natCast_emod]
    have hmodT : Int.tmod (at_ : Int) nS = r := by rw [Int.tmod_eq_emod_of_nonneg (by omega)]; exact hmodI
    have r0 : (0 : Int) ≤ r := by omega
    have r1 : (r : Int) < nS := by omega
    have hnS0 : ((nS : Int) == 0) = false := by simp; omega
    have hmg : gs.getD (at_ % nS) 0 = m := by rw [← hr, List.getD_eq_getElem?_getD, hz]; rfl
    subst hAS
    have p0 := hP1.cell 0 _ rfl
    have p1 := hP1.cell 1 _ rfl
    have p2 := hP1.cell 2 _ rfl
    have f2 := hP1.free 2
    have HP1 := Lib.hid hP1
    have HZ1 := Lib.hid hZ1
    have HB01 := Lib.hid hb01
    have HR1 := Lib.hid hr1
    have HLn := Lib.hid hlen
    have HLne := Lib.hid hLne
    have HMG := Lib.hid hmg
    have HL := Lib.hid hL
    have H := Lib.hid h
    clear h hs hlen hB hB2 hb1 hP1 hZ1 hb01 hr1 hs1' hcs hLne hmg hz hr hgl hL
    have e0 : ByteArray.mk #[] = st [] := rfl
    go_enter Try.func18, Try.ntmps18
    go_upto_region 4 with fail
    rw [← hw1]
    clear hw1
    go_region
    go_upto_region 7 with fail
    have hP2 := (HP1.out.set 2 (.int .i64 ((at_ : Int) + 1))).drew
    have hZ2 := (HZ1.out.other (p := ⟨w.heap.size, 2, none⟩) (by simp) (.int .i64 ((at_ : Int) + 1))).drew
    have hb02 : Below w.heap.size w (w1.setCell ⟨w.heap.size, 2, none⟩ (.int .i64 ((at_ : Int) + 1))).drew := ((Keeps.of_below (G := Is w.heap.size) HB01.out).setCell (p := ⟨w.heap.size, 2, none⟩) (.inl rfl) _).drew.is (Nat.le_refl _) (Nat.le_refl _)
    have hsz2 : (w1.setCell ⟨w.heap.size, 2, none⟩ (.int .i64 ((at_ : Int) + 1))).drew.heap.size = w.heap.size + 2 := by rw [show (w1.setCell ⟨w.heap.size, 2, none⟩ (.int .i64 ((at_ : Int) + 1))).drew.heap.size = w1.heap.size by simp [World.setCell, World.drew]]; exact hs1
    have HMD := Lib.hid hmodI
    clear HP1 HZ1 p0 p1 p2 f2 kz hmodI hmodT r0 r1 hnS0 HB01 HR1
    generalize (w1.setCell ⟨w.heap.size, 2, none⟩ (.int .i64 ((at_ : Int) + 1))).drew = w2 at hP2 hZ2 hb02 hsz2
    have p0 := hP2.cell 0 _ rfl
    have Hsrc := Lib.hid ((H.out.up hb02).src (P := Try.prog) (c := cL) 39 9 Try.underlying39 (sv_one L))
    have HP2 := Lib.hid hP2
    have HZ2 := Lib.hid hZ2
    have HB02 := Lib.hid hb02
    clear hP2 hZ2 hb02
    go_upto_region 8 with (at_builtin; go_must (refine wpList_appendV strsElem rfl (.tmp 27) (.tmp 29) 39 rfl w2.heap.size none 0 0 [] rfl (OwV.nil _ _ _) _ rfl nL (sv L) Hsrc.out (by omega) (by omega) (Nat.le_refl _) ?_); intro A3 n3 c3 l3 w3 hl3 hn3 hown3 hb3 hg3; simp only [Act.put, List.setIfInBounds_toArray, List.set_cons_succ, List.set_cons_zero])
    have hn3' : n3 = nL := by rw [hn3.out]; omega
    subst hn3'
    rw [show l3 = sv L by rw [hl3.out]; rfl] at hown3
    obtain ⟨gl, hA3, hgl1, hgl2⟩ := hown3.blk (by omega)
    subst hA3
    have htl : Tl w3 w2.heap.size gl n3 c3 0 (some ⟨gl, 0, none⟩) n3 c3 L := ⟨⟨L, hown3, rfl⟩, HLn.out, by omega, by omega, fun _ => rfl, hown3.cap.1⟩
    have hP3 := HP2.out.up hb3
    have hZ3 := HZ2.out.up hb3
    have HTL := Lib.hid htl
    have HP3 := Lib.hid hP3
    have HZ3 := Lib.hid hZ3
    have HB03 := Lib.hid (HB02.out.trans (hb3.mono (by omega)))
    have hw23 := hb3.size
    clear htl hP3 hZ3 hown3 hb3 hg3 p0 Hsrc
    obtain ⟨wz, rfl⟩ : ∃ x, x = w3 := ⟨_, rfl⟩
    have m9 : (m : Int) ≤ 9 := hz9.2
    go_wp2
    go_loopw [5, 7] (fun o v wr => RnRel wz w2.heap.size gl n3 c3 L m o v wr) (fun o _ _ => m - szOf o)
    case atStart => exact ⟨0, 0, _, _, _, L, [], rfl, rfl, by omega, rfl, Lib.hid (by simp), Lib.hid (by rw [eat_zero]), HTL.out, Keeps.refl _ _⟩
    case round =>
      obtain ⟨j, q, A, k, d, cur, out, rfl, rfl, hj, hjo, hout, hcur, htl, hkp⟩ := hrel
      have hso : (st out).size = j := by rw [st_size]; exact hjo
      have HT := Lib.hid htl
      have HKP := Lib.hid hkp
      have hck : cur.length = k := htl.len
      clear htl hkp
      by_cases hgo : j < m ∧ cur ≠ []
      · obtain ⟨hjm, hcn⟩ := hgo
        obtain ⟨x, rest, hcx⟩ : ∃ x rest, cur = x :: rest := by
          cases cur with
          | nil => exact absurd rfl hcn
          | cons x rest => exact ⟨x, rest, rfl⟩
        obtain ⟨hA, hk0, kc, kf, hset⟩ := HT.out.head hcx
        have hgood := (eat_good j L HL.out).1
        rw [← hcur.out, hcx] at hgood
        obtain ⟨a, t, hxa⟩ : ∃ a t, x = a :: t := by
          cases x with
          | nil => exact absurd rfl (hgood.2 [] (by simp)).1
          | cons a t => exact ⟨a, t, rfl⟩
        subst hxa
        obtain ⟨he1, ho1⟩ := eat_one HL.out (hcur.out.symm.trans hcx)
        have hj1 : (j : Int) < m := by omega
        have hk1 : (0 : Int) < k := by omega
        have hx1 : (st (a :: t)).extract 0 1 = st [a] := by rw [st_extract]; rfl
        have hx2 : (st (a :: t)).extract 1 (st (a :: t)).size = st t := by rw [st_extract, st_size]; simp
        have hx2' : (st (a :: t)).extract 1 (t.length + 1) = st t := by rw [st_extract]; simp
        have hxs : (st (a :: t)).size = t.length + 1 := by rw [st_size]; rfl
        have hone : (st [a]).size = 1 := rfl
        have happ := st_append out [a]
        have hset1 := hset t
        have HE1 := Lib.hid he1
        have HO1 := Lib.hid ho1
        have HS1 := Lib.hid hset1
        have kc2 : (wr.setCell ⟨gl, q, none⟩ (.string (st t))).cell? ⟨gl, q, none⟩ = some (.string (st t)) := (hset1.head rfl).2.2.1
        subst hA
        have hdk : k ≤ d := by have h1 := HT.out.sum; have h2 := HT.out.cap; have h3 := HT.out.le; omega
        have hkp2 := HKP.out.setCell (p := ⟨gl, q, none⟩) (.inl rfl) (.string (st t))
        have HKP2 := Lib.hid hkp2
        clear hset he1 ho1 hset1 hgood hcn hkp2
        have hd1 : (1 : Int) ≤ d := by omega
        have hk2 : (1 : Int) ≤ k := by omega
        have hk3 : 1 ≤ k := by omega
        by_cases ht : t = []
        · subst ht
          have hnx := HS1.out.next rfl
          have HNX := Lib.hid hnx
          clear hnx
          go_wp2
          go_roundw
          case rel => exact ⟨j + 1, q + 1, _, k - 1, d - 1, rest, out ++ [a], rfl, rfl, by omega, by simp [hjo], Lib.hid (by rw [HO1.out, hout.out]), Lib.hid (by rw [HE1.out]; simp [absL]), HNX.out, HKP2.out⟩
          case measure => simp only [szOf]; rw [st_size, st_size]; simp; omega
        · have hte : t.isEmpty = false := by simpa using ht
          go_wp2
          go_roundw
          case rel => exact ⟨j + 1, q, _, k, d, t :: rest, out ++ [a], by first | rfl | rw [← happ], rfl, by omega, by simp [hjo], Lib.hid (by rw [HO1.out, hout.out]), Lib.hid (by rw [HE1.out]; simp [absL, ht]), HS1.out, HKP2.out⟩
          case measure => simp only [szOf]; rw [st_size, st_size]; simp; omega
      · have hjt : j ≤ total L := by
          have h1 := congrArg List.length hout.out
          rw [List.length_take, hjo] at h1
          unfold total
          omega
        have htk : takeN gs (at_ % nS) L = j := by
          unfold takeN
          rw [HMG.out, Int.toNat_natCast]
          by_cases hc : cur = []
          · have h1 := eat_total j L
            rw [← hcur.out, hc, total_nil] at h1
            omega
          · have : ¬ j < m := fun h => hgo ⟨h, hc⟩
            omega
        have HTK := Lib.hid htk
        clear htk
        by_cases hjm : j < m
        · have hc0 : cur = [] := Classical.byContradiction fun h => hgo ⟨hjm, h⟩
          have hk0 : k = 0 := by rw [← hck, hc0]; rfl
          have hj1 : (j : Int) < m := by omega
          have hk1 : ¬ (0 : Int) < k := by omega
          have hk2 : decide ((0 : Int) < k) = false := by simpa using hk1
          subst hk0
          clear hgo
          have hB5 := HP3.out.keeps HKP.out (fun e => by have : w.heap.size = gl := e; omega)
          have hZ5 := HZ3.out.keeps HKP.out (fun e => by have : w.heap.size + 1 = gl := e; omega)
          have u0 := hB5.cell 0 _ rfl
          have v0 := hB5.free 0
          have hB6 := hB5.set 0 (.slice A 0 d)
          have hZ6 := hZ5.other (p := ⟨w.heap.size, 0, none⟩) (by simp) (.slice A 0 d)
          have y0 := hB6.cell 0 _ rfl
          have y1 := hB6.cell 1 _ rfl
          have y2 := hB6.cell 2 _ rfl
          have hkZ : Keeps (fun i => i = w.heap.size ∨ i = w.heap.size + 1) wr (wr.setCell ⟨w.heap.size, 0, none⟩ (.slice A 0 d)) := keeps_setCell (G := fun i => i = w.heap.size ∨ i = w.heap.size + 1) wr _ (.inl rfl)
          have HKZ := Lib.hid hkZ
          clear hB5 hZ5 hB6 hkZ
          go_upto_region 14 with fail
          generalize wr.setCell ⟨w.heap.size, 0, none⟩ (.slice A 0 d) = w6 at hZ6 y0 y1 y2 HKZ
          clear u0 v0
          go_wp2_with (refine wpList_storeBlk rfl (.tmp 2) (.tmp 60) rfl rfl [.slice A 0 d, .slice (some ⟨b, off, none⟩) nS cS, .int .i64 ((at_ : Int) + 1)] rfl rfl (by kernel_rfl) hZ6 rfl (by simp [Value.oneCell']) ?_)
          have hF := hZ6.setRow [.slice A 0 d, .slice (some ⟨b, off, none⟩) nS cS, .int .i64 ((at_ : Int) + 1)]
          have s0 := hF.cell 0 _ rfl
          have s1 := hF.cell 1 _ rfl
          have s2 := hF.cell 2 _ rfl
          have hkF : Keeps (fun i => i = w.heap.size ∨ i = w.heap.size + 1) wr (w6.setRow (w.heap.size + 1) #[.slice A 0 d, .slice (some ⟨b, off, none⟩) nS cS, .int .i64 ((at_ : Int) + 1)]) := HKZ.out.trans ((keeps_setRow w6 _).mono fun i _ e => .inr e)
          have hrF := (HT.out.keeps hkF (fun e => by omega)).rd
          have hbF : Below w.heap.size w (w6.setRow (w.heap.size + 1) #[.slice A 0 d, .slice (some ⟨b, off, none⟩) nS cS, .int .i64 ((at_ : Int) + 1)]) := by
            have k1 : Keeps (fun i => i = gl ∨ i = w.heap.size ∨ i = w.heap.size + 1) w wz := Keeps.of_below HB03.out
            have k2 := (k1.trans (HKP.out.mono fun i _ e => .inl e)).trans (hkF.mono fun i _ e => .inr e)
            exact k2.under (Nat.le_refl _) (fun i hi e => by omega)
          exact bodyPost_ret (v := .tuple #[.agg #[.slice A 0 d, .slice (some ⟨b, off, none⟩) nS cS, .int .i64 ((at_ + 1 : Nat) : Int)], .string (st out), .bool true]) (by simp [results, Try.results18, go_sem, s0, s1, s2]) rfl
            (.inr ⟨HLne.out, A, 0, d, cur, out, rfl, hrF, Lib.hid (by rw [hout.out]; unfold pieceOf; rw [HTK.out]), Lib.hid (by rw [hcur.out]; unfold nextL; rw [HTK.out]), hbF, fun ad ha h0 => by have h2 := HT.out.at_ h0; rw [ha] at h2; injection h2 with h2; rw [h2]; show w.heap.size ≤ gl; omega⟩)
        · have hj1 : ¬ (j : Int) < m := by omega
          have hj2 : decide ((j : Int) < m) = false := by simpa using hj1
          clear hgo
          have hB5 := HP3.out.keeps HKP.out (fun e => by have : w.heap.size = gl := e; omega)
          have hZ5 := HZ3.out.keeps HKP.out (fun e => by have : w.heap.size + 1 = gl := e; omega)
          have u0 := hB5.cell 0 _ rfl
          have v0 := hB5.free 0
          have hB6 := hB5.set 0 (.slice A k d)
          have hZ6 := hZ5.other (p := ⟨w.heap.size, 0, none⟩) (by simp) (.slice A k d)
          have y0 := hB6.cell 0 _ rfl
          have y1 := hB6.cell 1 _ rfl
          have y2 := hB6.cell 2 _ rfl
          have hkZ : Keeps (fun i => i = w.heap.size ∨ i = w.heap.size + 1) wr (wr.setCell ⟨w.heap.size, 0, none⟩ (.slice A k d)) := keeps_setCell (G := fun i => i = w.heap.size ∨ i = w.heap.size + 1) wr _ (.inl rfl)
          have HKZ := Lib.hid hkZ
          clear hB5 hZ5 hB6 hkZ
          go_upto_region 14 with fail
          generalize wr.setCell ⟨w.heap.size, 0, none⟩ (.slice A k d) = w6 at hZ6 y0 y1 y2 HKZ
          clear u0 v0
          go_wp2_with (refine wpList_storeBlk rfl (.tmp 2) (.tmp 60) rfl rfl [.slice A k d, .slice (some ⟨b, off, none⟩) nS cS, .int .i64 ((at_ : Int) + 1)] rfl rfl (by kernel_rfl) hZ6 rfl (by simp [Value.oneCell']) ?_)
          have hF := hZ6.setRow [.slice A k d, .slice (some ⟨b, off, none⟩) nS cS, .int .i64 ((at_ : Int) + 1)]
          have s0 := hF.cell 0 _ rfl
          have s1 := hF.cell 1 _ rfl
          have s2 := hF.cell 2 _ rfl
          have hkF : Keeps (fun i => i = w.heap.size ∨ i = w.heap.size + 1) wr (w6.setRow (w.heap.size + 1) #[.slice A k d, .slice (some ⟨b, off, none⟩) nS cS, .int .i64 ((at_ : Int) + 1)]) := HKZ.out.trans ((keeps_setRow w6 _).mono fun i _ e => .inr e)
          have hrF := (HT.out.keeps hkF (fun e => by omega)).rd
          have hbF : Below w.heap.size w (w6.setRow (w.heap.size + 1) #[.slice A k d, .slice (some ⟨b, off, none⟩) nS cS, .int .i64 ((at_ : Int) + 1)]) := by
            have k1 : Keeps (fun i => i = gl ∨ i = w.heap.size ∨ i = w.heap.size + 1) w wz := Keeps.of_below HB03.out
            have k2 := (k1.trans (HKP.out.mono fun i _ e => .inl e)).trans (hkF.mono fun i _ e => .inr e)
            exact k2.under (Nat.le_refl _) (fun i hi e => by omega)
          exact bodyPost_ret (v := .tuple #[.agg #[.slice A k d, .slice (some ⟨b, off, none⟩) nS cS, .int .i64 ((at_ + 1 : Nat) : Int)], .string (st out), .bool true]) (by simp [results, Try.results18, go_sem, s0, s1, s2]) rfl
            (.inr ⟨HLne.out, A, k, d, cur, out, rfl, hrF, Lib.hid (by rw [hout.out]; unfold pieceOf; rw [HTK.out]), Lib.hid (by rw [hcur.out]; unfold nextL; rw [HTK.out]), hbF, fun ad ha h0 => by have h2 := HT.out.at_ h0; rw [ha] at h2; injection h2 with h2; rw [h2]; show w.heap.size ≤ gl; omega⟩)
end Go.Proofs.Ytojbehblgmpbgaa
