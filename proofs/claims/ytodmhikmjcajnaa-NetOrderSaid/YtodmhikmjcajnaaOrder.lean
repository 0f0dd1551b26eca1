/-
  NetOrder: what is taken at the front comes in the order in which it was posted, as it was, as far as there was room; the rest is lost.
-/
import Derived.Test.YtodmhikmjcajnaaRows
import Derived.WalkKit
import Derived.ProofKit
import Derived.OpenShut
import Derived.ShutString
import Derived.ChangeOld
import Derived.Below
import Derived.Deep.Matrix
import Derived.Test.YtodmhikmjcajnaaNj
namespace Go.Proofs.Ytodmhikmjcajnaa.netOrder
open Go.ChangeShapes Go.WideShapes Go.ChangeAt Go.RowKit
open Go.ChangeMaps (open_string shut_string)
set_option linter.unusedVariables false

theorem own : ownKnob Try.prog.godebug = none := by kernel_rfl
theorem laidOut : laidOutB Try.prog = true := by kernel_rfl

/-- a slice of slices of integers that came in. -/
def IsRows (k : IntKind) (w : World) (a : Option Addr) (len cap : Nat) (A : Nat → Option Addr) (L C : Nat → Nat) (Z : Nat → List Int) : Prop :=
  (a = none ∧ len = 0 ∧ cap = 0) ∨
  ∃ x, a = some x ∧ len ≤ cap ∧ cap ≤ maxLen ∧ ∀ r, r < cap → w.cell? (x.add r) = some (.slice (A r) (L r) (C r)) ∧ L r ≤ C r ∧ C r ≤ maxLen ∧ (Z r).length = C r ∧ (∀ n ∈ Z r, (Lit.int k n).wf = true) ∧ (A r = none → C r = 0) ∧
    ∀ a', A r = some a' → ∀ c, c < C r → w.cell? (a'.add c) = some (.int k ((Z r).getD c 0))

theorem first_cell {w : World} {B g n : Nat} {d : List Int} (h : Reads w B 1 (some ⟨g, 0, none⟩) n (bytes d)) (hn : 0 < n) : w.cell? ⟨g, 0, none⟩ = some (.int .u8 (d.getD 0 0)) := by
  have hl := h.1
  rw [bytes_length, Nat.mul_one] at hl
  obtain ⟨ad, e, _, hc⟩ := h.2 hn
  injection e with e
  subst e
  have := hc 0 (.int .u8 (d.getD 0 0)) (by simp [bytes, hl, hn])
  rwa [Addr.add_lit] at this
/-- the mails that were posted. -/
def mailAt (L : Nat → Nat) (Z : Nat → List Int) (r : Nat) : Mail := ⟨(r : Int), 63 - (r : Int), dataOf L Z r⟩
def mails (L : Nat → Nat) (Z : Nat → List Int) (m : Nat) : List Mail := (List.range m).map (mailAt L Z)
theorem mails_length (L : Nat → Nat) (Z : Nat → List Int) (m : Nat) : (mails L Z m).length = m := by simp [mails]
theorem mails_succ (L : Nat → Nat) (Z : Nat → List Int) (m : Nat) : mails L Z (m + 1) = mails L Z m ++ [mailAt L Z m] := by simp [mails, List.range_succ]
theorem node_small (i : Nat) (h : i < 60) : (node (i : Int) && node (63 - (i : Int))) = true := by simp [node]; omega

/-- what holds ahead of each round of the posts. -/
def Posted (L : Nat → Nat) (Z : Nat → List Int) (w wr : World) (N q i : Nat) : Prop :=
  ∃ S : Nat → Prop, IsNet wr N S ((q : Int) + 1) (((i - min i (q + 1)) : Nat)) (mails L Z (min i (q + 1))) ∧ ∀ x, S x → w.heap.size ≤ x

theorem posted_yes {L : Nat → Nat} {Z : Nat → List Int} {w w3 : World} {N q i : Nat} {S : Nat → Prop} (h : IsNet w3 N S ((q : Int) + 1) ((i - min i (q + 1) : Nat)) (mails L Z (min i (q + 1)) ++ [mailAt L Z i])) (hi : i < q + 1) (hS : ∀ x, S x → w.heap.size ≤ x) :
    Posted L Z w w3 N q (i + 1) := by
  refine ⟨S, ?_, hS⟩
  have e1 : min i (q + 1) = i := by omega
  have e2 : min (i + 1) (q + 1) = i + 1 := by omega
  rw [e1, ← mails_succ, Nat.sub_self] at h
  rw [e2, Nat.sub_self]
  exact h
theorem posted_no {L : Nat → Nat} {Z : Nat → List Int} {w w3 : World} {N q i : Nat} {S : Nat → Prop} (h : IsNet w3 N S ((q : Int) + 1) (((i - min i (q + 1) : Nat) : Int) + 1) (mails L Z (min i (q + 1)))) (hi : ¬ i < q + 1) (hS : ∀ x, S x → w.heap.size ≤ x) :
    Posted L Z w w3 N q (i + 1) := by
  refine ⟨S, ?_, hS⟩
  have e1 : min i (q + 1) = q + 1 := by omega
  have e2 : min (i + 1) (q + 1) = q + 1 := by omega
  rw [e1] at h
  rw [e2, show i + 1 - (q + 1) = (i - (q + 1)) + 1 by omega]
  exact h
theorem net_far {w : World} {N : Nat} {S : Nat → Prop} {room lost : Int} {ms : List Mail} (h : IsNet w N S room lost ms) {p : Addr} (hp : ¬ S p.block) (u : Value) : IsNet (w.setCell p u) N S room lost ms :=
  h.frame (by simp) (fun k hk _ => Below.heap_setCell w p u k (fun e => hp (by rw [← e]; exact hk)))

theorem below_dN {B : Nat} {a w : World} (h : Below B a w) (n : Nat) : Below B a (w.drewN n) := ⟨h.os, h.tape, h.output, h.size, h.block⟩
theorem take_front (N : Nat) (S : Nat → Prop) (room lost : Int) (t M : Nat) (L : Nat → Nat) (Z : Nat → List Int) (w : World) (h : IsNet w N S room lost ((mails L Z M).drop t)) (ht : t < M) (hM : M ≤ 900) :
    Calls Try.prog 11 #[.pointer (some ⟨N, 0, none⟩), .int .i64 0] w fun e w' => ∃ A n c, e = .returned (.tuple #[.agg #[.int .i64 (t : Int), .int .i64 (63 - (t : Int)), .slice A n c], .bool true]) ∧ Reads w' w'.heap.size 1 A n (bytes (dataOf L Z t)) ∧
      IsNet w' N S room lost ((mails L Z M).drop (t + 1)) ∧ Keeps w w' S := by
  have hl : ((mails L Z M).drop t).length = M - t := by rw [List.length_drop, mails_length]
  refine (take_any N S room lost 0 _ w h (by omega) (by omega)).mono ?_
  rintro e w' ⟨A, n, c, rfl, hr, _, _, hn, hk⟩
  have hx : ((mails L Z M).drop t)[0]'(by omega) = mailAt L Z t := by simp [mails]
  rw [hx] at hr ⊢
  refine ⟨A, n, c, rfl, hr, ?_, hk⟩
  rwa [List.take_zero, List.nil_append, List.drop_drop] at hn

set_option maxRecDepth 100000 in
set_option maxHeartbeats 1000000 in
theorem walk (a0 : Int) (a1 : Option Addr) (len1 cap1 : Nat) (A1 : Nat → Option Addr) (L1 C1 : Nat → Nat) (Z1 : Nat → List Int) (a2 : Int) (w : World) (w0 : (Lit.int .u8 a0).wf = true) (w1 : IsRows .u8 w a1 len1 cap1 A1 L1 C1 Z1) (w2 : (Lit.int .u8 a2).wf = true) :
    Calls Try.prog 3 #[.int .u8 a0, .slice a1 len1 cap1, .int .u8 a2] w fun e w' => e = .returned (.bool true) ∧ Below w.heap.size w w' := by
  have hn0 := bounds_u8 w0
  obtain ⟨hlm, hrow⟩ := rows_cases w1
  clear w0 w1 w2
  obtain ⟨q, hq⟩ : ∃ q : Nat, a0 % 40 = (q : Int) := ⟨(a0 % 40).toNat, by omega⟩
  have hq40 : q < 40 := by omega
  have ha0 : 0 ≤ a0 := hn0.1
  clear hn0
  by_cases hbig : 60 < len1
  · clear hrow hq
    go_enter Try.func3, Try.ntmps3
    go_wp2_with (first | (go_at_call 7; go_must (refine (awake_any _).mono ?_); rintro e w1 ⟨rfl, hb1⟩))
    go_ret
    exact ⟨rfl, hb1⟩
  · have hlen : len1 ≤ 60 := by omega
    clear hlm
    have HR := Lib.hid hrow
    clear hrow
    have kc := fun (w : World) (s : ByteArray) => Lib.run_convert_string_bytes (P := Try.prog) w 9 28 5 s Try.underlying9 Try.underlying28 Try.underlying5
    go_enter Try.func3, Try.ntmps3
    go_wp2_with (first | (go_at_call 7; go_must (refine (awake_any _).mono ?_); rintro e w1 ⟨rfl, hb1⟩))
    clear hq
    refine (new_ok ((q : Int) + 1) w1 (by omega) (by omega)).mono ?_
    rintro e w2 ⟨rfl, hnet, hB1⟩
    have hz1 := hb1.size
    have hB2 : Below w.heap.size w w2 := hb1.trans (hB1.mono hb1.size)
    have H0 : Hid (Posted L1 Z1 w w2 w1.heap.size q 0) := ⟨_, hnet, fun x hx => by have h' : x = w1.heap.size := hx; omega⟩
    clear hnet hB1 hb1
    go_wp2_with fail
    go_loopw [11] (fun iv wr => ∃ i : Nat, i ≤ len1 ∧ iv = .int .i64 i ∧ Hid (Posted L1 Z1 w wr w1.heap.size q i) ∧ Below w.heap.size w wr)
      (fun iv _ => len1 - (intOf iv).toNat)
    case atStart => exact ⟨0, Nat.zero_le _, rfl, H0, hB2⟩
    case round =>
      clear H0 hB2
      obtain ⟨i, hi, rfl, H, hB⟩ := hrel
      by_cases hlt : i < len1
      · obtain ⟨b, off, rfl, hbl, hcell⟩ := HR.out.resolve_left (by omega)
        obtain ⟨hc, hLC, hLm, hr, hd⟩ := hcell i hlt
        clear hcell
        have hcr : wr.cell? ⟨b, off + i, none⟩ = some (.slice (A1 i) (L1 i) (C1 i)) := (hB.cell hbl).trans hc
        clear hc
        by_cases hL : 50 < L1 i
        · clear hr hd hLC H
          go_wp2_with fail
          go_ret
          exact ⟨rfl, hB⟩
        · have hL50 : L1 i ≤ 50 := by omega
          have hrr := (hr.below hB).more hB.size
          have hcv : (convert 28 9 (.slice (A1 i) (L1 i) (C1 i))).run Try.prog wr = .ok (.string (strD (dataOf L1 Z1 i))) wr := conv_reads _ _ _ _ _ _ hrr
          have hDl := dataOf_length L1 Z1 i
          clear hr hrr
          go_wp2_with fail
          have e := (strD_size (dataOf L1 Z1 i)).trans hDl
          rw [e]
          have hW2 := laid_below wr (dataOf L1 Z1 i)
          have hr2 := reads_laid wr (dataOf L1 Z1 i) hd
          have hf2 := laid_free wr (dataOf L1 Z1 i)
          have hsz2 : (Lib.bytesWorld wr 5 (strD (dataOf L1 Z1 i))).heap.size = wr.heap.size + 1 := Lib.bytesWorld_size _ _ _
          rw [hDl] at hr2 hf2
          generalize grownCap wr (L1 i) 0 5 = cd
          clear hcv e hDl
          obtain ⟨S, hnet, hS⟩ := H.out
          have hnet2 := hnet.below hW2
          have hSlt := hnet.1
          have hB2 := hB.trans (hW2.mono hB.size)
          clear hnet hW2 H hcr
          generalize Lib.bytesWorld wr 5 (strD (dataOf L1 Z1 i)) = W2 at hr2 hf2 hsz2 hnet2 hB2 ⊢
          have hml := mails_length L1 Z1 (min i (q + 1))
          by_cases hik : i < q + 1
          · have hik' : (i : Int) < (q : Int) + 1 := by omega
            refine (post_ok w1.heap.size S ((q : Int) + 1) _ _ W2 hnet2 i (63 - (i : Int)) _ (L1 i) cd (dataOf L1 Z1 i) hr2 hL50 (node_small i (by omega)) (by rw [hml]; omega) (by rw [hml]; omega)).mono ?_
            rintro e w3 ⟨rfl, S3, hnet3, hS3, hK3⟩
            have hB3 := hK3.below hB2 hS
            have hS3' : ∀ x, S3 x → w.heap.size ≤ x := fun x hx => by
              have := hB2.size
              rcases hS3 x hx with h | h
              · exact hS x h
              · omega
            have hng : ¬ S3 wr.heap.size := fun hx => by
              rcases hS3 _ hx with h | h
              · have := hSlt _ h; omega
              · omega
            have hnS : ¬ S wr.heap.size := fun hx => by have := hSlt _ hx; omega
            have hblk := hK3.block wr.heap.size (by omega) hnS
            by_cases hL0 : 0 < L1 i
            · have hc3 : w3.cell? ⟨wr.heap.size, 0, none⟩ = some (.int .u8 ((dataOf L1 Z1 i).getD 0 0)) := by
                have h1 := first_cell hr2 hL0
                exact (World.cell?_of_block (a := ⟨wr.heap.size, 0, none⟩) hblk).trans h1
              have hf3 : w3.frozen? ⟨wr.heap.size, 0, none⟩ = false := (World.frozen?_of_block (a := ⟨wr.heap.size, 0, none⟩) hblk).trans (hf2 hL0)
              have hP : ∀ u, Hid (Posted L1 Z1 w (w3.setCell ⟨wr.heap.size, 0, none⟩ u) w1.heap.size q (i + 1)) := fun u => posted_yes (net_far hnet3 (p := ⟨wr.heap.size, 0, none⟩) hng u) hik hS3'
              have hB4 : ∀ u, Hid (Below w.heap.size w (w3.setCell ⟨wr.heap.size, 0, none⟩ u)) := fun u => hB3.setCell (by exact hB.size) u
              have HP := Lib.hid hP
              have HB4 := Lib.hid hB4
              clear hP hB4 hnet3 hS3 hK3 hB3 hr2 hf2 hnet2 hB2 hblk hml hB hd
              go_wp2_with fail
              go_roundw
              case rel => exact ⟨i + 1, by omega, by go_num, HP.out _, (HB4.out _).out⟩
              case measure => simp [intOf]; omega
            · have hP : Hid (Posted L1 Z1 w w3 w1.heap.size q (i + 1)) := posted_yes hnet3 hik hS3'
              clear hnet3 hS3 hK3 hr2 hf2 hnet2 hB2 hblk hml hB hd
              go_wp2_with fail
              go_roundw
              case rel => exact ⟨i + 1, by omega, by go_num, hP, hB3⟩
              case measure => simp [intOf]; omega
          · have hik' : (q : Int) + 1 ≤ (i : Int) := by omega
            refine (post_full w1.heap.size S ((q : Int) + 1) _ _ W2 hnet2 i (63 - (i : Int)) _ (L1 i) cd (node_small i (by omega)) (by rw [hml]; omega) (by omega) (by omega)).mono ?_
            rintro e w3 ⟨rfl, hnet3, hK3⟩
            have hB3 := hK3.below hB2 hS
            have hnS : ¬ S wr.heap.size := fun hx => by have := hSlt _ hx; omega
            have hblk := hK3.block wr.heap.size (by omega) hnS
            by_cases hL0 : 0 < L1 i
            · have hc3 : w3.cell? ⟨wr.heap.size, 0, none⟩ = some (.int .u8 ((dataOf L1 Z1 i).getD 0 0)) := by
                have h1 := first_cell hr2 hL0
                exact (World.cell?_of_block (a := ⟨wr.heap.size, 0, none⟩) hblk).trans h1
              have hf3 : w3.frozen? ⟨wr.heap.size, 0, none⟩ = false := (World.frozen?_of_block (a := ⟨wr.heap.size, 0, none⟩) hblk).trans (hf2 hL0)
              have hP : ∀ u, Hid (Posted L1 Z1 w (w3.setCell ⟨wr.heap.size, 0, none⟩ u) w1.heap.size q (i + 1)) := fun u => posted_no (net_far hnet3 (p := ⟨wr.heap.size, 0, none⟩) hnS u) hik hS
              have hB4 : ∀ u, Hid (Below w.heap.size w (w3.setCell ⟨wr.heap.size, 0, none⟩ u)) := fun u => hB3.setCell (by exact hB.size) u
              have HP := Lib.hid hP
              have HB4 := Lib.hid hB4
              clear hP hB4 hnet3 hK3 hB3 hr2 hf2 hnet2 hB2 hblk hml hB hd
              go_wp2_with fail
              go_roundw
              case rel => exact ⟨i + 1, by omega, by go_num, HP.out _, (HB4.out _).out⟩
              case measure => simp [intOf]; omega
            · have hP : Hid (Posted L1 Z1 w w3 w1.heap.size q (i + 1)) := posted_no hnet3 hik hS
              clear hnet3 hK3 hr2 hf2 hnet2 hB2 hblk hml hB hd
              go_wp2_with fail
              go_roundw
              case rel => exact ⟨i + 1, by omega, by go_num, hP, hB3⟩
              case measure => simp [intOf]; omega
      · obtain rfl : i = len1 := by omega
        obtain ⟨S, hnet, hS⟩ := H.out
        clear H
        have hcase : (∃ M : Nat, (q : Int) + 1 ≤ (i : Int) ∧ (M : Int) ≤ (q : Int) + 1 ∧ (q : Int) + 1 ≤ (M : Int) ∧ IsNet wr w1.heap.size S ((q : Int) + 1) ((i : Int) - ((q : Int) + 1)) (mails L1 Z1 M)) ∨
            (∃ M : Nat, (i : Int) < (q : Int) + 1 ∧ (M : Int) ≤ (i : Int) ∧ (i : Int) ≤ (M : Int) ∧ IsNet wr w1.heap.size S ((q : Int) + 1) 0 (mails L1 Z1 M)) := by
          by_cases hov : q + 1 ≤ i
          · have e1 : min i (q + 1) = q + 1 := by omega
            rw [e1, show ((i - (q + 1) : Nat) : Int) = (i : Int) - ((q : Int) + 1) by omega] at hnet
            exact .inl ⟨q + 1, by omega, by omega, by omega, hnet⟩
          · have e1 : min i (q + 1) = i := by omega
            rw [e1, Nat.sub_self] at hnet
            exact .inr ⟨i, by omega, by omega, by omega, hnet⟩
        clear hnet
        have hz := hB.size
        rcases hcase with ⟨M, g1, g2, g3, hnet⟩ | ⟨M, g1, g2, g3, hnet⟩
        all_goals
          have HO := Lib.hid (lost_any _ _ _ _ _ _ hnet)
          go_wp2_with fail
          refine HO.out.mono ?_
          rintro e w3 ⟨rfl, hw⟩
          obtain rfl := hw.symm
          clear HO hw
          go_wp2_with fail
          go_loopw [14] (fun tv wi => ∃ t : Nat, t ≤ M ∧ tv = .int .i64 t ∧ Hid (∃ LO, IsNet wi w1.heap.size S ((q : Int) + 1) LO ((mails L1 Z1 M).drop t)) ∧ Below w.heap.size w wi)
            (fun tv _ => M - (intOf tv).toNat)
          case atStart => exact ⟨0, Nat.zero_le _, rfl, ⟨_, hnet⟩, hB⟩
          case round =>
            clear hnet hB
            obtain ⟨t, ht, rfl, H, hB⟩ := hrel
            obtain ⟨LO, hnet⟩ := H.out
            clear H
            by_cases htM : t < M
            · obtain ⟨b, off, rfl, hbl, hcell⟩ := HR.out.resolve_left (by omega)
              obtain ⟨hc, hLC, hLm, hr, hd⟩ := hcell t (by omega)
              have HT := Lib.hid (take_front w1.heap.size S ((q : Int) + 1) LO t M L1 Z1 _ hnet htM (by omega))
              clear hcell hd hnet hLC
              go_wp2_with fail
              refine HT.out.mono ?_
              rintro e w3 ⟨A, n, c, rfl, hr3, hnet3, hK3⟩
              have hB3 := hK3.below hB hS
              have hnet4 := hnet3.below ((Below.refl _ w3).alloc (Nat.le_refl _) (.cells #[.int .i64 (t : Int), .int .i64 (63 - (t : Int)), .slice A n c] 31))
              have hB4 := hB3.alloc hB3.size (.cells #[.int .i64 (t : Int), .int .i64 (63 - (t : Int)), .slice A n c] 31)
              have hbox := Blk.new w3 31 #[.int .i64 (t : Int), .int .i64 (63 - (t : Int)), .slice A n c]
              have hr4 := hr3.alloc (Nat.le_refl _) (.cells #[.int .i64 (t : Int), .int .i64 (63 - (t : Int)), .slice A n c] 31)
              have hcv : ∀ nq, (convert 28 9 (.slice A n c)).run Try.prog ((w3.alloc (.cells #[.int .i64 (t : Int), .int .i64 (63 - (t : Int)), .slice A n c] 31)).drewN nq) = .ok (.string (strD (dataOf L1 Z1 t))) _ := fun nq => conv_reads A n c _ _ _ (hr4.drewN nq)
              have hcv2 : ∀ nq, (convert 28 9 (.slice (A1 t) (L1 t) (C1 t))).run Try.prog ((w3.alloc (.cells #[.int .i64 (t : Int), .int .i64 (63 - (t : Int)), .slice A n c] 31)).drewN nq) = .ok (.string (strD (dataOf L1 Z1 t))) _ := fun nq => conv_reads _ _ _ _ _ _ ((hr.below hB4).drewN nq)
              have hc4 : (w3.alloc (.cells #[.int .i64 (t : Int), .int .i64 (63 - (t : Int)), .slice A n c] 31)).cell? ⟨b, off + t, none⟩ = some (.slice (A1 t) (L1 t) (C1 t)) := (hB4.cell hbl).trans hc
              clear hr3 hnet3 hK3 hB3 hr4 hr hc hB HT
              go_wp2_with fail
              go_quiet (fail)
              go_wp2
              go_roundw
              case rel => exact ⟨t + 1, by omega, by go_num, ⟨LO, hnet4.drewN _⟩, below_dN hB4 _⟩
              case measure => simp [intOf]; omega
            · obtain rfl : t = M := by omega
              have HL0 := len_any _ _ _ _ _ _ hnet
              rw [List.length_drop, mails_length, Nat.sub_self] at HL0
              have HL := Lib.hid HL0
              clear HL0 hnet
              go_wp2_with fail
              refine HL.out.mono ?_
              rintro e w3 ⟨rfl, rfl⟩
              go_wp2_with fail
              go_ret
              exact ⟨rfl, hB⟩

set_option maxRecDepth 100000 in
theorem lifted (os : Os) (started : os.Started) (H : Type) (enc : TypeId × Value → H) :
    ReturnsInHanded {} Try.checked os 3 .any (Rows.netOrderSpec.pre6 enc Try.prog Try.f3 Rows.netOrderRow.domain false) (Rows.netOrderSpec.post enc Try.prog Try.f3 false true false false) := by
  refine returnsInHanded_of_change (C := Try.checked) own started (by kernel_rfl) Try.func3
    (ChangeSpec.witness6 (enc := enc) (C := Try.checked) false ⟨#[], #[.int .u8 0, .slice none 0 0, .int .u8 0], []⟩ 8 (by kernel_rfl) (by kernel_rfl) (by kernel_rfl) (by kernel_rfl)) ?_
  intro W base args ds gs before hval0 hW hcnd _
  have hval : ∀ (j : Nat) t v, Try.f3.params[j]? = some t → args[j]? = some v → Value.okWide Try.prog W .any base t v := hval0
  have hW' := hW
  obtain ⟨p, q, hA0, hV, rfl, hfz, hnd⟩ := hW
  have hA : DataW.TrodAll enc Try.prog W 0 (fun _ => true) true Try.f3.params.toList args.toList ds p := hA0
  rw [Try.params3] at hA hval
  obtain ⟨v0, vs0, d0, ds0, p0, q0, hargs, rfl, rfl, h0, r0⟩ := trodAll_cons hA
  obtain ⟨v1, vs1, d1, ds1, p1, q1, rfl, rfl, rfl, h1, r1⟩ := trodAll_cons r0
  obtain ⟨v2, vs2, d2, ds2, p2, q2, rfl, rfl, rfl, h2, r2⟩ := trodAll_cons r1
  obtain ⟨rfl, rfl, rfl⟩ := trodAll_nil r2
  obtain rfl : args = #[v0, v1, v2] := by cases args; simp_all
  obtain ⟨rfl, rfl⟩ := trodVars_none hV
  obtain ⟨a0, rfl, rfl, rfl, w0⟩ := open_int Try.underlying5 (hval 0 5 v0 rfl rfl) h0
  obtain ⟨a1, len1, cap1, rfl⟩ := okWide_slice Try.underlying22 (hval 1 22 v1 rfl rfl)
  have k1 := h1
  have lt1 : ∀ x ∈ p1, x.block < W.heap.size := by obtain ⟨m, hm⟩ := k1; exact DataW.trod_lt m _ _ _ hm
  obtain ⟨A1, L1, C1, Z1, w1⟩ : ∃ A L C Z, IsRows .u8 W a1 len1 cap1 A L C Z := by
    obtain ⟨fuel, hf⟩ := h1
    rcases Go.Deep.open_int_rows Try.underlying22 Try.underlying28 Try.underlying5 (by kernel_rfl) (by kernel_rfl) hf with ⟨hcs, _⟩ | ⟨x, l, c, A, L, C, Z, hcs, _, hl, hm, _, hr⟩
    · simp [Value.cells] at hcs
      obtain ⟨rfl, rfl, rfl⟩ := hcs
      exact ⟨fun _ => none, fun _ => 0, fun _ => 0, fun _ => [], .inl ⟨rfl, rfl, rfl⟩⟩
    · simp [Value.cells] at hcs
      obtain ⟨rfl, rfl, rfl⟩ := hcs
      exact ⟨A, L, C, Z, .inr ⟨_, rfl, hl, hm, fun r hr' => by obtain ⟨h1, h2, h3, h4, h5, h6, h7⟩ := hr r hr'; exact ⟨h1, h2, h3, h4, h5, h6, fun a' ha' => (h7 a' ha').2⟩⟩⟩
  obtain ⟨a2, rfl, rfl, rfl, w2⟩ := open_int Try.underlying5 (hval 2 5 v2 rfl rfl) h2
  clear hA0 hval0
  refine (walk a0 a1 len1 cap1 A1 L1 C1 Z1 a2 W w0 w1 w2).mono fun e W' ⟨he, bel⟩ => ?_
  subst he
  exact ⟨_, rfl, _, _, _, [], _, [], hW', trodAll_mk1 (shut_bool Try.underlying4 _), (trodAll_cons_mk (shut_int Try.underlying5 w0) (trodAll_cons_mk (Below.trod laidOut (by kernel_rfl) (of_decide_eq_true (by kernel_rfl)) k1 bel lt1) (trodAll_cons_mk (shut_int Try.underlying5 w2) trodAll_mk0))), rfl, bel.frame _, fun h => by cases h⟩

theorem over : Rows.netOrderRow.holds Try.pinned (OpenSpec.ofChange Rows.netOrderSpec) :=
  OpenClaim.holds_of_wide 3 Try.f3 rfl rfl rfl rfl rfl rfl rfl ⟨rfl, rfl, rfl, rfl, rfl⟩ rfl rfl rfl rfl rfl (by kernel_rfl) Try.func3 (by kernel_rfl)
    (of_decide_eq_true (by kernel_rfl)) (by unfold Func.isWrapper; first | (rw [if_pos (by decide +kernel)]; kernel_rfl) | (rw [if_neg (by decide +kernel)]; exact ⟨rfl, rfl⟩))
    (fun os started H enc _ => lifted os started H enc)

theorem proved : Rows.NetOrderSaid := over
#print axioms proved
end Go.Proofs.Ytodmhikmjcajnaa.netOrder
