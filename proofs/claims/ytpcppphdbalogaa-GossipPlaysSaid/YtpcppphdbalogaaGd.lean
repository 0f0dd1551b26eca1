/-
  Gossip: the walks of 'others', for each of the two closures.
-/
import Derived.Test.YtpcppphdbalogaaGc
namespace Go.Proofs.Ytpcppphdbalogaa
open Go.RowKit Go.Sort

theorem gos_cells {w : World} {g d tb : Nat} {me many fan : Int} (h : Blk w g 57 (gosCells me many fan d tb)) :
    w.cell? ⟨g, 0, none⟩ = some (.int .i64 me) ∧ w.cell? ⟨g, 1, none⟩ = some (.int .i64 many) ∧ w.cell? ⟨g, 2, none⟩ = some (.int .i64 fan) ∧ w.cell? ⟨g, 3, none⟩ = some (.pointer (some ⟨d, 0, none⟩)) ∧ w.cell? ⟨g, 4, none⟩ = some (.map (some tb)) :=
  ⟨h.cell 0, h.cell 1, h.cell 2, h.cell 3, h.cell 4⟩

set_option maxHeartbeats 800000 in
theorem others_all (g d tb m n c : Nat) (me fan : Int) (a : Option Addr) (zs : List Int) (w : World) (hb : Blk w g 57 (gosCells me (m : Int) fan d tb)) (hm : m ≤ 64) (hl : IsL w a n zs) (hn : n ≤ 1000) :
    Calls Try.prog 19 #[.pointer (some ⟨g, 0, none⟩), .slice a n c, .func (.func 20) #[] #[]] w fun e w' => ∃ v, e = .returned v ∧
      w'.ownsRow w.heap.size 3 1 v (oth m me (fun _ => true) zs).length (ints (oth m me (fun _ => true) zs)) ∧ Below w.heap.size w w' := by
  obtain ⟨i0, hi, hz0, hz1, hz2⟩ := info_parts Try.info3
  have hglt := hb.lt
  obtain ⟨hc0, hc1, _, _, _⟩ := gos_cells hb
  have hmk := make_bools m (by omega) w
  have hzl := hl.1
  have HL := Lib.hid hl
  clear hb hl
  have R0 : OthRel w (w.alloc (.cells (falses m) 4)) w.heap.size m 0 me (fun _ => true) zs (.slice none 0 0) :=
    ⟨falses_own m (by omega) 1 w, World.ownsRow_nil _ _ _ _, (Below.refl _ w).alloc (Nat.le_refl _) _⟩
  have HR0 := Lib.hid R0
  clear R0
  go_enter Try.func19, Try.ntmps19
  go_wp2_with fail
  go_loopw [8, 10, 18] (fun ov _ cv wr => ∃ i : Nat, i ≤ n ∧ cv = .int .i64 i ∧ OthRel w wr w.heap.size m i me (fun _ => true) zs ov)
    (fun _ _ cv _ => n - (intOf cv).toNat)
  case atStart => exact ⟨0, Nat.zero_le _, rfl, HR0.out⟩
  case round =>
    clear HR0 hmk
    obtain ⟨i, hin, rfl, R⟩ := hrel
    by_cases hlt : i < n
    · obtain ⟨ab, off, rfl, hab, hcz⟩ := isl_cell HL.out hlt
      have hzi : i < zs.length := by omega
      have hcw := (R.below.cell (p := ⟨ab, off + i, none⟩) hab).trans hcz
      have hd0 := (R.below.cell (p := ⟨g, 0, none⟩) hglt).trans hc0
      have hd1 := (R.below.cell (p := ⟨g, 1, none⟩) hglt).trans hc1
      clear hcz
      have hsz := R.below.size
      have Hcan : Hid (∀ b, canTell m me (fun _ => true) (oth m me (fun _ => true) (zs.take i)) (zs.getD i 0) = b → canTell m me (fun _ => true) (oth m me (fun _ => true) (zs.take i)) (zs.getD i 0) = b) := fun _ h => h
      have hdef : Hid (∀ k, zs.getD i 0 = k → canTell m me (fun _ => true) (oth m me (fun _ => true) (zs.take i)) (zs.getD i 0) = (decide (0 ≤ k) && decide (k < (m : Int)) && decide (k ≠ me) && !decide (k ∈ oth m me (fun _ => true) (zs.take i)) && (fun _ => true) k)) := fun k h => by rw [h]; rfl
      clear Hcan
      obtain ⟨k, hk⟩ : ∃ k, zs.getD i 0 = k := ⟨_, rfl⟩
      have HD := Lib.hid (hdef.out k hk)
      clear hdef
      have HK := Lib.hid hk
      rw [hk] at hcw
      clear hk
      have SK := fun h => Lib.hid (R.skip hzi h)
      by_cases h1 : k < 0
      · have S := SK (by rw [HD.out]; simp; omega)
        clear SK R
        go_wp2_with fail
        go_roundw
        case rel => exact ⟨i + 1, by omega, by go_num, S.out⟩
        case measure => simp [intOf]; omega
      by_cases h2 : (m : Int) ≤ k
      · have S := SK (by rw [HD.out]; simp; omega)
        clear SK R
        go_wp2_with fail
        go_roundw
        case rel => exact ⟨i + 1, by omega, by go_num, S.out⟩
        case measure => simp [intOf]; omega
      by_cases h3 : k = me
      · have S := SK (by rw [HD.out]; simp [h3])
        clear SK R HD HK
        subst h3
        go_wp2_with fail
        go_roundw
        case rel => exact ⟨i + 1, by omega, by go_num, S.out⟩
        case measure => simp [intOf]; omega
      obtain ⟨q, rfl⟩ : ∃ q : Nat, k = q := ⟨k.toNat, by omega⟩
      have hq : q < m := by omega
      have hsc := bools_cell2 R.seen hq
      by_cases h4 : (q : Int) ∈ oth m me (fun _ => true) (zs.take i)
      · have S := SK (by rw [HD.out]; simp [h4])
        rw [decide_eq_true h4] at hsc
        clear SK R HD HK h4
        go_wp2_with fail
        go_roundw
        case rel => exact ⟨i + 1, by omega, by go_num, S.out⟩
        case measure => simp [intOf]; omega
      rw [decide_eq_false h4] at hsc
      have CT := Lib.hid (show canTell m me (fun _ => true) (oth m me (fun _ => true) (zs.take i)) (q : Int) = true by have := HD.out; rw [HK.out] at this; rw [this]; simp [h4, h3]; omega)
      clear SK HD h4
      have hfz : wr.frozen? ⟨w.heap.size, q, none⟩ = false := R.seen.frozenAt q
      have hol := R.out
      have holn : (oth m me (fun _ => true) (zs.take i)).length ≤ n := Nat.le_trans (oth_length _ _ _ _) (by simp; omega)
      have TK := fun {w3 : World} {v3 : Value} {o : Obj} (h1 : w3.ownsRow w.heap.size 3 1 v3 ((oth m me (fun _ => true) (zs.take i)).length + 1) (ints (oth m me (fun _ => true) (zs.take i)) ++ [.int .i64 (q : Int)])) (h2 : ((wr.setCell ⟨w.heap.size, q, none⟩ (.bool true)).alloc o).grownBy w3 u8.ownBlock) => Lib.hid (R.take hzi HK.out CT.out h1 h2)
      have s2 := (bools_set (d := 1) (q := q) (p := (q : Int)) R.seen (by omega) (by omega)).2
      have ho2 := hol.kept s2 (own_type_ne R.out R.seen (by decide))
      have hsz2 := R.below.size
      clear R s2 hol
      have HQ := Lib.hid CT
      clear CT HK
      go_wp2_with fail
      refine (may_all _ _).mono ?_
      rintro e wx ⟨rfl, hw⟩
      obtain rfl := hw.symm
      clear hw
      go_wp2_with (at_builtin; go_must (refine wpList_append_any _ rfl (.tmp 55) (.tmp 57) _ rfl w.heap.size 3 i0 _ 1 8 Try.underlying34 hi hz0 hz1 hz2 rfl (by omega) u8 (oth m me (fun _ => true) (zs.take i)).length (ints (oth m me (fun _ => true) (zs.take i))) rfl (ho2.alloc _) (wr.heap.size + 1) (some ⟨wr.heap.size, 0, none⟩) 1 1 [.int .i64 (q : Int)] rfl (by simpa using reads_one (wr.setCell ⟨w.heap.size, q, none⟩ (.bool true)) (.int .i64 (q : Int)) _) (one_cell _) ?c3 ?c4 ?c5 ?_))
      case c3 => unfold maxLen; omega
      case c4 => omega
      case c5 => simp; omega
      intro v3 w3 hown3 hgrow3 _
      have T := TK hown3 hgrow3
      clear TK hown3 hgrow3 ho2
      go_wp2
      go_roundw
      case rel => exact ⟨i + 1, by omega, by go_num, T.out⟩
      case measure => simp [intOf]; omega
    · obtain rfl : i = n := by omega
      have e1 : zs.take i = zs := List.take_of_length_le (by omega)
      have RO := R.out
      rw [e1] at RO
      clear hc0 hc1 HL
      go_wp2_with fail
      go_ret
      exact ⟨_, rfl, RO, R.below⟩
set_option maxHeartbeats 800000 in
theorem others_from (g d tb m n c : Nat) (fb : Nat) (f : Int) (me fan : Int) (a : Option Addr) (zs : List Int) (w : World) (hb : Blk w g 57 (gosCells me (m : Int) fan d tb)) (hm : m ≤ 64) (hl : IsL w a n zs) (hn : n ≤ 1000) (hcf : w.cell? ⟨fb, 0, none⟩ = some (.int .i64 f)) :
    Calls Try.prog 19 #[.pointer (some ⟨g, 0, none⟩), .slice a n c, .func (.func 23) #[] #[.pointer (some ⟨fb, 0, none⟩)]] w fun e w' => ∃ v, e = .returned v ∧
      w'.ownsRow w.heap.size 3 1 v (oth m me (fun k => k != f) zs).length (ints (oth m me (fun k => k != f) zs)) ∧ Below w.heap.size w w' := by
  obtain ⟨i0, hi, hz0, hz1, hz2⟩ := info_parts Try.info3
  have hglt := hb.lt
  obtain ⟨hc0, hc1, _, _, _⟩ := gos_cells hb
  have hmk := make_bools m (by omega) w
  have hzl := hl.1
  have HL := Lib.hid hl
  clear hb hl
  have R0 : OthRel w (w.alloc (.cells (falses m) 4)) w.heap.size m 0 me (fun k => k != f) zs (.slice none 0 0) :=
    ⟨falses_own m (by omega) 1 w, World.ownsRow_nil _ _ _ _, (Below.refl _ w).alloc (Nat.le_refl _) _⟩
  have HR0 := Lib.hid R0
  clear R0
  go_enter Try.func19, Try.ntmps19
  go_wp2_with fail
  go_loopw [8, 10, 18] (fun ov _ cv wr => ∃ i : Nat, i ≤ n ∧ cv = .int .i64 i ∧ OthRel w wr w.heap.size m i me (fun k => k != f) zs ov)
    (fun _ _ cv _ => n - (intOf cv).toNat)
  case atStart => exact ⟨0, Nat.zero_le _, rfl, HR0.out⟩
  case round =>
    clear HR0 hmk
    obtain ⟨i, hin, rfl, R⟩ := hrel
    by_cases hlt : i < n
    · obtain ⟨ab, off, rfl, hab, hcz⟩ := isl_cell HL.out hlt
      have hzi : i < zs.length := by omega
      have hcw := (R.below.cell (p := ⟨ab, off + i, none⟩) hab).trans hcz
      have hd0 := (R.below.cell (p := ⟨g, 0, none⟩) hglt).trans hc0
      have hd1 := (R.below.cell (p := ⟨g, 1, none⟩) hglt).trans hc1
      clear hcz
      have hsz := R.below.size
      have Hcan : Hid (∀ b, canTell m me (fun k => k != f) (oth m me (fun k => k != f) (zs.take i)) (zs.getD i 0) = b → canTell m me (fun k => k != f) (oth m me (fun k => k != f) (zs.take i)) (zs.getD i 0) = b) := fun _ h => h
      have hdef : Hid (∀ k, zs.getD i 0 = k → canTell m me (fun k => k != f) (oth m me (fun k => k != f) (zs.take i)) (zs.getD i 0) = (decide (0 ≤ k) && decide (k < (m : Int)) && decide (k ≠ me) && !decide (k ∈ oth m me (fun k => k != f) (zs.take i)) && (fun k => k != f) k)) := fun k h => by rw [h]; rfl
      clear Hcan
      obtain ⟨k, hk⟩ : ∃ k, zs.getD i 0 = k := ⟨_, rfl⟩
      have HD := Lib.hid (hdef.out k hk)
      clear hdef
      have HK := Lib.hid hk
      rw [hk] at hcw
      clear hk
      have SK := fun h => Lib.hid (R.skip hzi h)
      by_cases h1 : k < 0
      · have S := SK (by rw [HD.out]; simp; omega)
        clear SK R
        go_wp2_with fail
        go_roundw
        case rel => exact ⟨i + 1, by omega, by go_num, S.out⟩
        case measure => simp [intOf]; omega
      by_cases h2 : (m : Int) ≤ k
      · have S := SK (by rw [HD.out]; simp; omega)
        clear SK R
        go_wp2_with fail
        go_roundw
        case rel => exact ⟨i + 1, by omega, by go_num, S.out⟩
        case measure => simp [intOf]; omega
      by_cases h3 : k = me
      · have S := SK (by rw [HD.out]; simp [h3])
        clear SK R HD HK
        subst h3
        go_wp2_with fail
        go_roundw
        case rel => exact ⟨i + 1, by omega, by go_num, S.out⟩
        case measure => simp [intOf]; omega
      obtain ⟨q, rfl⟩ : ∃ q : Nat, k = q := ⟨k.toNat, by omega⟩
      have hq : q < m := by omega
      have hsc := bools_cell2 R.seen hq
      by_cases h4 : (q : Int) ∈ oth m me (fun k => k != f) (zs.take i)
      · have S := SK (by rw [HD.out]; simp [h4])
        rw [decide_eq_true h4] at hsc
        clear SK R HD HK h4
        go_wp2_with fail
        go_roundw
        case rel => exact ⟨i + 1, by omega, by go_num, S.out⟩
        case measure => simp [intOf]; omega
      rw [decide_eq_false h4] at hsc
      have hcf2 := (R.below.cell (p := ⟨fb, 0, none⟩) (World.block_lt_of_cell? w _ hcf)).trans hcf
      by_cases h5 : (q : Int) = f
      · have S := SK (by rw [HD.out]; simp [h5])
        clear SK HD HK
        have e5 : ((q : Int) != f) = false := by simp [h5]
        clear h5 h4 R
        go_wp2_with fail
        refine (may_from _ f fb _ hcf2).mono ?_
        rintro e wx ⟨rfl, hw⟩
        obtain rfl := hw.symm
        clear hw
        go_wp2_with fail
        go_roundw
        case rel => exact ⟨i + 1, by omega, by go_num, S.out⟩
        case measure => simp [intOf]; omega
      have e5 : ((q : Int) != f) = true := by simp [h5]
      have CT := Lib.hid (show canTell m me (fun k => k != f) (oth m me (fun k => k != f) (zs.take i)) (q : Int) = true by have := HD.out; rw [HK.out] at this; rw [this]; simp [h4, h3, h5]; omega)
      clear SK HD h4 h5
      have hfz : wr.frozen? ⟨w.heap.size, q, none⟩ = false := R.seen.frozenAt q
      have hol := R.out
      have holn : (oth m me (fun k => k != f) (zs.take i)).length ≤ n := Nat.le_trans (oth_length _ _ _ _) (by simp; omega)
      have TK := fun {w3 : World} {v3 : Value} {o : Obj} (h1 : w3.ownsRow w.heap.size 3 1 v3 ((oth m me (fun k => k != f) (zs.take i)).length + 1) (ints (oth m me (fun k => k != f) (zs.take i)) ++ [.int .i64 (q : Int)])) (h2 : ((wr.setCell ⟨w.heap.size, q, none⟩ (.bool true)).alloc o).grownBy w3 u8.ownBlock) => Lib.hid (R.take hzi HK.out CT.out h1 h2)
      have s2 := (bools_set (d := 1) (q := q) (p := (q : Int)) R.seen (by omega) (by omega)).2
      have ho2 := hol.kept s2 (own_type_ne R.out R.seen (by decide))
      have hsz2 := R.below.size
      clear R s2 hol
      have HQ := Lib.hid CT
      clear CT HK
      go_wp2_with fail
      refine (may_from _ f fb _ hcf2).mono ?_
      rintro e wx ⟨rfl, hw⟩
      obtain rfl := hw.symm
      clear hw
      go_wp2_with (at_builtin; go_must (refine wpList_append_any _ rfl (.tmp 55) (.tmp 57) _ rfl w.heap.size 3 i0 _ 1 8 Try.underlying34 hi hz0 hz1 hz2 rfl (by omega) u8 (oth m me (fun k => k != f) (zs.take i)).length (ints (oth m me (fun k => k != f) (zs.take i))) rfl (ho2.alloc _) (wr.heap.size + 1) (some ⟨wr.heap.size, 0, none⟩) 1 1 [.int .i64 (q : Int)] rfl (by simpa using reads_one (wr.setCell ⟨w.heap.size, q, none⟩ (.bool true)) (.int .i64 (q : Int)) _) (one_cell _) ?c3 ?c4 ?c5 ?_))
      case c3 => unfold maxLen; omega
      case c4 => omega
      case c5 => simp; omega
      intro v3 w3 hown3 hgrow3 _
      have T := TK hown3 hgrow3
      clear TK hown3 hgrow3 ho2
      go_wp2
      go_roundw
      case rel => exact ⟨i + 1, by omega, by go_num, T.out⟩
      case measure => simp [intOf]; omega
    · obtain rfl : i = n := by omega
      have e1 : zs.take i = zs := List.take_of_length_le (by omega)
      have RO := R.out
      rw [e1] at RO
      clear hc0 hc1 HL
      go_wp2_with fail
      go_ret
      exact ⟨_, rfl, RO, R.below⟩
end Go.Proofs.Ytpcppphdbalogaa
