/-
  code.TakeText and the reference's: what they do.
-/
import Derived.Test.YtibanikfalfmcaaRTake
import Derived.Test.YtibanikfalfmcaaStep
import Derived.Deep.RegionHeld3
namespace Go.Proofs.Ytibanikfalfmcaa
open Go.RowKit
set_option linter.unusedVariables false

/-- A text taken, and the rest. -/
def TookT (X : Nat → Prop) (w w' : World) (e : Ending) (r : List UInt8 × List UInt8 × Int) : Prop :=
  ∃ A c A2 c2, e = .returned (.tuple #[.slice A r.1.length c, .slice A2 r.2.1.length c2, .int .i64 r.2.2]) ∧ Bytes w' w'.heap.size A r.1 ∧ r.1.length ≤ c ∧ Bytes w' w'.heap.size A2 r.2.1 ∧ r.2.1.length ≤ c2 ∧ Below w.heap.size w w' ∧ Away X A r.1 ∧ Away X A2 r.2.1

theorem takeTextIn_yes (A : Option Addr) (B c n l : Nat) (bs : List UInt8) (w : World) (hn : bs.length = l) (hr : Bytes w B A bs) (hB : B ≤ w.heap.size) (hl : bs.length ≤ 140737488355000) (hc : bs.length ≤ c) (hle : n ≤ bs.length) {X : Nat → Prop} (haw : Away X A bs) (hX : ∀ k, X k → k < w.heap.size) :
    Calls Try.prog 76 #[.int .u64 (n : Int), .slice A l c] w fun e w' => TookT X w w' e (bs.take n, bs.drop n, 0) := by
  subst hn
  obtain ⟨A', hcut, hrest, hawc⟩ := cut_from' (k := n) (l := (n : Int)) elem_bytes size_byte hr rfl hc rfl hle .u64
  have hto := cut_to (A := A) (n := bs.length) (c := c) (k := n) (h := (n : Int)) elem_bytes size_byte rfl (by omega) .u64
  have hcl := fun (w0 : World) (h0 : Below w.heap.size w w0) => clone_any A B c n (bs.take n) w0 (by simp; omega) (hr.belowLe h0 hB |>.take n) (Nat.le_trans hB h0.size) (by simp; omega)
  have HCL := hide hcl
  have HAC := hide hawc
  have HAW := hide haw
  clear hcl hawc haw
  go_enter Try.func76, Try.ntmps76
  go_wp2
  go_region_with (go_at_call 74; refine (HCL.out _ ?_).mono ?_; exact below_drewN' (Below.refl _ _) 1; rintro e w1 ⟨A1, c1, rfl, hown, hb⟩)
  have hb1 : Below w.heap.size w w1 := (below_drewN' (Below.refl w.heap.size w) 1).trans hb
  go_wp2
  refine bodyPost_ret (results_tmp3 rfl _ _ _) rfl ?_
  have hcap : n ≤ c1 := by
    obtain ⟨_, c2, e2, h1, _⟩ := own_shape hown
    injection e2 with _ _ e3
    subst e3
    rw [List.length_take] at h1
    omega
  refine ⟨A1, c1, A', c - n, ?_, hown.bytes, ?_, (hrest.belowLe hb1 hB).more (Nat.le_trans hB hb1.size), ?_, hb1, Away.of_own hown hX, HAC.out _ HAW.out⟩
  · show _ = Ending.returned (.tuple #[.slice A1 (bs.take n).length c1, .slice A' (bs.drop n).length (c - n), .int .i64 0])
    rw [List.length_take, List.length_drop, Nat.min_eq_left hle]
    rfl
  · show (bs.take n).length ≤ c1
    rw [List.length_take]; omega
  · show (bs.drop n).length ≤ _
    rw [List.length_drop]; omega

theorem takeTextIn_no (A : Option Addr) (c n l : Nat) (bs : List UInt8) (w : World) (hn : bs.length = l) (hl : bs.length ≤ 140737488355000) (hle : ¬ n ≤ bs.length) (hn64 : n < 18446744073709551616) {X : Nat → Prop} :
    Calls Try.prog 76 #[.int .u64 (n : Int), .slice A l c] w fun e w' => TookT X w w' e ([], [], 3) := by
  subst hn
  obtain ⟨x, hx⟩ : ∃ x : Int, x = (n : Int) := ⟨_, rfl⟩
  have x1 : (bs.length : Int) < x := by omega
  have x2 : x ≤ 18446744073709551615 := by omega
  rw [← hx]
  clear hx hle hn64
  go_enter Try.func76, Try.ntmps76
  go_wp2
  refine bodyPost_ret (results_tmp3 rfl _ _ _) rfl ?_
  exact ⟨none, 0, none, 0, rfl, Bytes.nil, by simp, Bytes.nil, by simp, Below.refl _ _, Away.none, Away.none⟩

set_option maxRecDepth 100000 in
theorem thenText_any (A : Option Addr) (B c n : Nat) (bs : List UInt8) (w : World) (hn : bs.length = n) (hr : Bytes w B A bs) (hB : B ≤ w.heap.size) (hl : bs.length ≤ 140737488355000) (hc : bs.length ≤ c) {X : Nat → Prop} (haw : Away X A bs) (hX : ∀ k, X k → k < w.heap.size) :
    Calls Try.prog 75 #[.slice A n c, .func (.func 40) #[] #[], .func (.func 76) #[] #[]] w fun e w' => TookT X w w' e (tookT (takeT bs)) := by
  subst hn
  have htn := takeNumber_any A B c _ bs w rfl hr hB hl hc haw hX
  cases hT : takeN bs with
  | none =>
    have HT := hide (takeT_none hT)
    rw [hT] at htn
    have HN := hide htn
    clear htn hT
    go_enter Try.func75, Try.ntmps75
    go_wp2_with (go_at_call 40; refine halted ?_)
    refine go_on ?_
    refine HN.out.mono ?_
    rintro e w1 ⟨A1, c1, rfl, hr1, hc1, hb1, haw1⟩
    dsimp only [tookR] at *
    go_wp2
    refine bodyPost_ret (results_tmp3 rfl _ _ _) rfl ?_
    rw [HT.out]
    exact ⟨none, 0, none, 0, rfl, Bytes.nil, by simp [tookT], Bytes.nil, by simp [tookT], hb1, Away.none, Away.none⟩
  | some x =>
    obtain ⟨m, r⟩ := x
    rw [hT] at htn
    have HN := hide htn
    have hm := takeN_lt hT
    have hrl : r.length ≤ 140737488355000 := by
      obtain ⟨p, hp, _⟩ := takeN_suffix hT
      have : bs.length = p.length + r.length := by rw [hp, List.length_append]
      omega
    have hcl : ∀ (w1 : World) (A1 : Option Addr) (c1 : Nat), Bytes w1 w1.heap.size A1 r → r.length ≤ c1 → Away X A1 r → w.heap.size ≤ w1.heap.size → Calls Try.prog 76 #[.int .u64 (m : Int), .slice A1 r.length c1] w1 fun e w' => TookT X w1 w' e (tookT (takeT bs)) := by
      intro w1 A1 c1 h1 h2 h3 h4
      by_cases hle : m ≤ r.length
      · rw [takeT_some hT hle]
        exact takeTextIn_yes A1 w1.heap.size c1 m _ r w1 rfl h1 (Nat.le_refl _) hrl h2 hle h3 (fun k hk => Nat.lt_of_lt_of_le (hX k hk) h4)
      · rw [takeT_short hT hle]
        exact takeTextIn_no A1 c1 m _ r w1 rfl hrl hle hm
    have HCL := hide hcl
    obtain ⟨x, hx⟩ : ∃ x : Int, x = (m : Int) := ⟨_, rfl⟩
    clear htn hT hcl hrl
    have HX := hide hx
    have HM := hide hm
    clear hx hm
    go_enter Try.func75, Try.ntmps75
    go_wp2_with (go_at_call 40; refine halted ?_)
    refine go_on ?_
    refine HN.out.mono ?_
    rintro e w1 ⟨A1, c1, rfl, hr1, hc1, hb1, haw1⟩
    dsimp only [tookR] at *
    have HR1 := hide hr1
    have HC1 := hide hc1
    have HA1 := hide haw1
    clear hr1 hc1 haw1
    go_wp2_with (go_at_call 76; refine halted ?_)
    refine go_on ?_
    refine (HCL.out w1 A1 c1 HR1.out HC1.out HA1.out hb1.size).mono ?_
    rintro e w2 ht
    obtain ⟨A2, c2, A3, c3, rfl, h2, h3, h4, h5, h6, h7, h8⟩ := ht
    have hfin : TookT X w w2 (.returned (.tuple #[.slice A2 (tookT (takeT bs)).1.length c2, .slice A3 (tookT (takeT bs)).2.1.length c3, .int .i64 (tookT (takeT bs)).2.2])) (tookT (takeT bs)) := ⟨A2, c2, A3, c3, rfl, h2, h3, h4, h5, hb1.trans (h6.mono hb1.size), h7, h8⟩
    have HF := hide hfin
    clear hfin h2 h3 h4 h5 h6 h7 h8 hb1
    generalize hR : tookT (takeT bs) = R at *
    have HRR := hide hR
    clear hR
    go_wp2
    refine bodyPost_ret (results_tmp3 rfl _ _ _) rfl ?_
    rw [HRR.out]
    exact HF.out

theorem takeText_any (A : Option Addr) (B c n : Nat) (bs : List UInt8) (w : World) (hn : bs.length = n) (hr : Bytes w B A bs) (hB : B ≤ w.heap.size) (hl : bs.length ≤ 140737488355000) (hc : bs.length ≤ c) {X : Nat → Prop} (haw : Away X A bs) (hX : ∀ k, X k → k < w.heap.size) :
    Calls Try.prog 41 #[.slice A n c] w fun e w' => TookT X w w' e (tookT (takeT bs)) := by
  have HN := hide (thenText_any A B c n bs w hn hr hB hl hc haw hX)
  go_enter Try.func41, Try.ntmps41
  go_wp2_with (go_at_call 75; refine halted ?_)
  refine go_on ?_
  refine HN.out.mono ?_
  rintro e w1 ⟨A2, c2, A3, c3, rfl, h2, h3, h4, h5, h6, h7, h8⟩
  have HF : Hid (TookT X w w1 (.returned (.tuple #[.slice A2 (tookT (takeT bs)).1.length c2, .slice A3 (tookT (takeT bs)).2.1.length c3, .int .i64 (tookT (takeT bs)).2.2])) (tookT (takeT bs))) := ⟨A2, c2, A3, c3, rfl, h2, h3, h4, h5, h6, h7, h8⟩
  clear h2 h3 h4 h5 h6 h7 h8
  generalize hR : tookT (takeT bs) = R at *
  have HRR := hide hR
  clear hR
  go_wp2
  refine bodyPost_ret (results_tmp3 rfl _ _ _) rfl ?_
  rw [HRR.out]
  exact HF.out

set_option maxRecDepth 100000 in
theorem rtakeText_any (A : Option Addr) (B c n : Nat) (bs : List UInt8) (w : World) (hn : bs.length = n) (hr : Bytes w B A bs) (hB : B ≤ w.heap.size) (hl : bs.length ≤ 140737488355000) (hc : bs.length ≤ c) {X : Nat → Prop} (haw : Away X A bs) (hX : ∀ k, X k → k < w.heap.size) :
    Calls Try.prog 50 #[.slice A n c] w fun e w' => TookT X w w' e (tookT (takeT bs)) := by
  subst hn
  have htn := rtakeNumber_any A B c _ bs w rfl hr hB hl hc haw hX
  cases hT : takeN bs with
  | none =>
    have HT := hide (takeT_none hT)
    rw [hT] at htn
    have HN := hide htn
    clear htn hT
    go_enter Try.func50, Try.ntmps50
    go_wp2_with (go_at_call 49; refine halted ?_)
    refine go_on ?_
    refine HN.out.mono ?_
    rintro e w1 ⟨A1, c1, rfl, hr1, hc1, hb1, haw1⟩
    dsimp only [tookR] at *
    go_wp2
    refine bodyPost_ret (results_tmp3 rfl _ _ _) rfl ?_
    rw [HT.out]
    exact ⟨none, 0, none, 0, rfl, Bytes.nil, by simp [tookT], Bytes.nil, by simp [tookT], hb1, Away.none, Away.none⟩
  | some x =>
    obtain ⟨m, r⟩ := x
    rw [hT] at htn
    have HN := hide htn
    have hm := takeN_lt hT
    have hrl : r.length ≤ 140737488355000 := by
      obtain ⟨p, hp, _⟩ := takeN_suffix hT
      have : bs.length = p.length + r.length := by rw [hp, List.length_append]
      omega
    by_cases hle : m ≤ r.length
    · have HT := hide (takeT_some hT hle)
      have HLE := hide hle
      have hmI : (m : Int) ≤ (r.length : Int) := by omega
      clear htn hT hm hle
      go_enter Try.func50, Try.ntmps50
      go_wp2_with (go_at_call 49; refine halted ?_)
      refine go_on ?_
      refine HN.out.mono ?_
      rintro e w1 ⟨A1, c1, rfl, hr1, hc1, hb1, haw1⟩
      dsimp only [tookR] at *
      obtain ⟨A', hcut, hrest, hawc⟩ := cut_from' (k := m) (l := (m : Int)) elem_bytes size_byte hr1 rfl hc1 rfl HLE.out .u64
      have hto := cut_to (A := A1) (n := r.length) (c := c1) (k := m) (h := (m : Int)) elem_bytes size_byte rfl (by have := HLE.out; omega) .u64
      have HR1 := hide hr1
      have HAW := hide (hawc _ haw1)
      clear hawc haw1
      have hsz := hb1.size
      go_wp2
      go_region_law (refine step_append_bytes _ rfl (.tmp 23) (.tmp 26) 40 rfl w.heap.size 5 Try.underlying40 info_u8 _ _ _ [] rfl rfl (OwnB.lit _ _ [] (by exact hsz) (by simp)) _ A1 _ c1 (r.take m) rfl (by rw [List.length_take, Nat.min_eq_left HLE.out]) (by exact Bytes.alloc (w := w1.drew) (HR1.out.take m) (Nat.le_refl _) _) (by simp; omega) (by simp; omega) ?_; intro ds A2 c2 w2 hds hdl hown hg hat)
      have hde : ds = r.take m := by rw [hds.out]; rfl
      have hb2 : Below w.heap.size w w2 := ((hb1.drew).alloc hsz _).grown hg (by show _ ≤ (w1.drew.alloc _).heap.size; simp; omega) (by intro k hk; simp at hk; omega)
      have hb12 : Below w1.heap.size w1 w2 := (((Below.refl w1.heap.size w1).drew).alloc (Nat.le_refl _) _).grown hg (by show _ ≤ (w1.drew.alloc _).heap.size; simp) (by intro k hk; simp at hk; omega)
      have hdc : ds.length ≤ c2 := by
        obtain ⟨_, c3, e2, h1, _⟩ := own_shape hown
        injection e2 with _ _ e3
        subst e3
        exact h1
      have hbs2 := hown.bytes
      have HOW := hide (Away.of_own hown hX)
      subst hde
      clear hg hat hown hds
      go_wp2
      refine bodyPost_ret (results_tmp3 rfl _ _ _) rfl ?_
      rw [HT.out]
      refine ⟨A2, c2, A', c1 - m, ?_, hbs2, hdc, (hrest.below hb12).more hb12.size, ?_, hb2, HOW.out, HAW.out⟩
      · show _ = Ending.returned (.tuple #[.slice A2 (r.take m).length c2, .slice A' (r.drop m).length (c1 - m), .int .i64 0])
        rw [List.length_drop]
        rfl
      · show (r.drop m).length ≤ _
        rw [List.length_drop]; omega
    · have HT := hide (takeT_short hT hle)
      have hmI : (r.length : Int) < (m : Int) := by omega
      obtain ⟨x, hx⟩ : ∃ x : Int, (m : Int) = x := ⟨_, rfl⟩
      have hm64 : x ≤ 18446744073709551615 := by omega
      rw [hx] at hmI
      have HX := hide hx
      clear htn hT hle hm hx
      go_enter Try.func50, Try.ntmps50
      go_wp2_with (go_at_call 49; refine halted ?_)
      refine go_on ?_
      refine HN.out.mono ?_
      rintro e w1 ⟨A1, c1, rfl, hr1, hc1, hb1, haw1⟩
      dsimp only [tookR] at *
      rw [HX.out]
      clear hr1
      go_wp2
      refine bodyPost_ret (results_tmp3 rfl _ _ _) rfl ?_
      rw [HT.out]
      exact ⟨none, 0, none, 0, rfl, Bytes.nil, by simp [tookT], Bytes.nil, by simp [tookT], hb1, Away.none, Away.none⟩
end Go.Proofs.Ytibanikfalfmcaa
