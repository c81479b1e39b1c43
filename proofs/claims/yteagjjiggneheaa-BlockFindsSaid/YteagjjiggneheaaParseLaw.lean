/-
  What the code's Parse and the document's answer, in plain Lean: the same; what was built is parsed as it was.
-/
import Derived.Test.YteagjjiggneheaaParseMath
namespace Go.Proofs.Yteagjjiggneheaa
set_option linter.unusedVariables false

/-- Four bytes as a number. -/
def num4 (l : List UInt8) : Nat := (l.take 4).foldl (fun a c => a * 256 + c.toNat) 0
theorem num4_four (n : Nat) (r : List UInt8) : num4 (four n ++ r) = n % 4294967296 := by
  unfold num4 four
  simp only [List.cons_append, List.nil_append, List.take_succ_cons, List.take_zero, List.foldl_cons, List.foldl_nil, UInt8.toNat_ofNat']
  omega
theorem four_num4 {l : List UInt8} (h : 4 ≤ l.length) : four (num4 l) = l.take 4 := by
  match l, h with
  | a :: b :: c :: d :: r, _ =>
    have ha := a.toNat_lt
    have hb := b.toNat_lt
    have hc := c.toNat_lt
    have hd := d.toNat_lt
    unfold num4 four
    simp only [List.take_succ_cons, List.take_zero, List.foldl_cons, List.foldl_nil]
    obtain ⟨N, hN⟩ : ∃ N, N = (((0 * 256 + a.toNat) * 256 + b.toNat) * 256 + c.toNat) * 256 + d.toNat := ⟨_, rfl⟩
    rw [← hN]
    have e1 : UInt8.ofNat (N / 16777216 % 256) = a := UInt8.toNat_inj.1 (by rw [UInt8.toNat_ofNat']; omega)
    have e2 : UInt8.ofNat (N / 65536 % 256) = b := UInt8.toNat_inj.1 (by rw [UInt8.toNat_ofNat']; omega)
    have e3 : UInt8.ofNat (N / 256 % 256) = c := UInt8.toNat_inj.1 (by rw [UInt8.toNat_ofNat']; omega)
    have e4 : UInt8.ofNat (N % 256) = d := UInt8.toNat_inj.1 (by rw [UInt8.toNat_ofNat']; omega)
    rw [e1, e2, e3, e4]
theorem num4_lt (l : List UInt8) : num4 l < 4294967296 := by
  rcases Nat.lt_or_ge l.length 4 with h | h
  · match l, h with
    | [], _ => decide
    | [a], _ => have ha := a.toNat_lt; unfold num4; simp; omega
    | [a, b], _ => have ha := a.toNat_lt; have hb := b.toNat_lt; unfold num4; simp; omega
    | [a, b, c], _ => have ha := a.toNat_lt; have hb := b.toNat_lt; have hc := c.toNat_lt; unfold num4; simp; omega
  · match l, h with
    | a :: b :: c :: d :: r, _ =>
      have ha := a.toNat_lt
      have hb := b.toNat_lt
      have hc := c.toNat_lt
      have hd := d.toNat_lt
      unfold num4
      simp only [List.take_succ_cons, List.take_zero, List.foldl_cons, List.foldl_nil]
      omega

/-- The last byte, the count ahead of it. -/
def tailE (b : List UInt8) : Nat := (b.getD (b.length - 1) 0).toNat
def tailM (b : List UInt8) : Nat := num4 (b.drop (b.length - 5))
/-- Bytes taken apart. -/
def splitB (b : List UInt8) : Option (List UInt8 × List Nat × Nat) :=
  if b.length < 5 then none else if (b.length - 5) / 4 < tailM b ∨ tailE b < 1 ∨ 64 < tailE b then none else
    some (b.take (b.length - 5 - 4 * tailM b), (List.range (tailM b)).map (fun i => num4 (b.drop (b.length - 5 - 4 * (tailM b - i)))), tailE b)
/-- What the code's Parse answers. -/
def parseP (b : List UInt8) : Option (List KV) := match splitB b with
  | none => none
  | some (body, heads, every) => match allP every body.length 0 [] body with
    | none => none
    | some (out, hs) => if hs = heads ∧ out.length ≤ 20000 then some out else none
open Classical in
/-- What the document's answers. -/
noncomputable def parseQ (b : List UInt8) : Option (List KV) :=
  if b.length < 5 then none else if (b.length - 5) / 4 < tailM b then none else
    match allE [] (b.take (b.length - 5 - 4 * tailM b)) with
    | none => none
    | some es => if buildR (tailE b) (es.map (·.2)) = (b, 0) then some (es.map (·.2)) else none
/-- What either answers, as a call returns it. -/
def parsedR (o : Option (List KV)) : List KV × Int := match o with
  | none => ([], 3)
  | some l => (l, 0)

theorem flat4_len (hs : List Nat) : (hs.flatMap four).length = 4 * hs.length := by
  induction hs with
  | nil => rfl
  | cons x t ih => rw [List.flatMap_cons, List.length_append, ih, four_len, List.length_cons]; omega
theorem flat4_at (hs : List Nat) (r : List UInt8) {i : Nat} (hi : i < hs.length) (hx : hs[i] < 4294967296) : num4 ((hs.flatMap four ++ r).drop (4 * i)) = hs[i] := by
  induction hs generalizing i with
  | nil => simp at hi
  | cons x t ih =>
    cases i with
    | zero =>
      simp only [List.getElem_cons_zero] at hx ⊢
      rw [Nat.mul_zero, List.drop_zero, List.flatMap_cons, List.append_assoc, num4_four]
      omega
    | succ i =>
      simp only [List.getElem_cons_succ] at hx ⊢
      rw [List.flatMap_cons, List.append_assoc, show 4 * (i + 1) = (four x).length + 4 * i by rw [four_len]; omega, ← List.drop_drop, List.drop_left, ih (by simpa using hi) hx]
/-- A row of bytes is that of its numbers. -/
theorem flat4_of (l : List UInt8) (m : Nat) (r : List UInt8) (hl : l.length = 4 * m) : ((List.range m).map fun i => num4 ((l ++ r).drop (4 * i))).flatMap four = l := by
  induction m generalizing l with
  | zero => simp at hl; subst hl; rfl
  | succ m ih =>
    have h4 : 4 ≤ l.length := by omega
    have e : l = l.take 4 ++ l.drop 4 := (List.take_append_drop 4 l).symm
    rw [List.range_succ_eq_map, List.map_cons, List.map_map, List.flatMap_cons, Nat.mul_zero, List.drop_zero]
    have e1 : four (num4 (l ++ r)) = l.take 4 := by rw [four_num4 (by rw [List.length_append]; omega), List.take_append_of_le_length h4]
    have e2 : (List.range m).map ((fun i => num4 ((l ++ r).drop (4 * i))) ∘ Nat.succ) = (List.range m).map fun i => num4 ((l.drop 4 ++ r).drop (4 * i)) := by
      refine List.map_congr_left fun i _ => ?_
      show num4 ((l ++ r).drop (4 * (i + 1))) = _
      rw [show 4 * (i + 1) = 4 + 4 * i by omega, ← List.drop_drop, List.drop_append_of_le_length h4]
    rw [e1, e2, ih (l.drop 4) (by rw [List.length_drop]; omega), List.take_append_drop]

theorem headsOf_len (every i off : Nat) (es : List (Nat × KV)) : (headsOf every i off es).length ≤ es.length := by
  induction es generalizing i off with
  | nil => simp [headsOf]
  | cons e t ih =>
    obtain ⟨n, p⟩ := e
    unfold headsOf
    have := ih (i + 1) (off + (entryB n p).length)
    rw [List.length_append, List.length_cons]
    split <;> simp <;> omega
theorem headsOf_le (every i off : Nat) (es : List (Nat × KV)) : ∀ x ∈ headsOf every i off es, x ≤ off + (bodyOf es).length := by
  induction es generalizing i off with
  | nil => intro x hx; simp [headsOf] at hx
  | cons e t ih =>
    obtain ⟨n, p⟩ := e
    intro x hx
    unfold headsOf at hx
    have e1 : (bodyOf ((n, p) :: t)).length = (entryB n p).length + (bodyOf t).length := by
      show (entryB n p ++ bodyOf t).length = _
      rw [List.length_append]
    rcases List.mem_append.1 hx with h | h
    · split at h
      · simp at h; omega
      · simp at h
    · have := ih _ _ x h; omega

theorem builtB_parts (every : Nat) (l : List KV) : builtB every l = bodyOf (entriesOf every 0 [] l) ++ ((headsOf every 0 0 (entriesOf every 0 [] l)).flatMap four ++ (four (headsOf every 0 0 (entriesOf every 0 [] l)).length ++ [UInt8.ofNat every])) := by
  have h := bodyTo_entries every l l.length (Nat.le_refl _)
  rw [List.take_length] at h
  unfold builtB
  rw [h]
  dsimp only
  rw [flat4_len, Nat.mul_div_cancel_left _ (by omega)]

/-- What bytes are that end in a count and a byte. -/
theorem tail_of (body hb : List UInt8) (m e : Nat) (b : List UInt8) (h : b = body ++ (hb ++ (four m ++ [UInt8.ofNat e]))) (he : e < 256) (hm : m < 4294967296) (hl : hb.length = 4 * m) :
    5 ≤ b.length ∧ tailE b = e ∧ tailM b = m ∧ m ≤ (b.length - 5) / 4 ∧ b.take (b.length - 5 - 4 * m) = body ∧ b.length - 5 = body.length + 4 * m := by
  have hlen : b.length = body.length + 4 * m + 5 := by
    rw [h]; simp only [List.length_append, four_len, List.length_singleton]; omega
  have h1 : b = (body ++ (hb ++ four m)) ++ [UInt8.ofNat e] := by rw [h]; simp
  have h2 : b = (body ++ hb) ++ (four m ++ [UInt8.ofNat e]) := by rw [h]; simp
  have l1 : (body ++ (hb ++ four m)).length = b.length - 1 := by simp only [List.length_append, four_len]; omega
  have l2 : (body ++ hb).length = b.length - 5 := by simp only [List.length_append]; omega
  refine ⟨by omega, ?_, ?_, by omega, ?_, by omega⟩
  · unfold tailE
    rw [← l1]
    rw [h1, List.getD_eq_getElem?_getD, List.getElem?_append_right (Nat.le_refl _), Nat.sub_self]
    show (UInt8.ofNat e).toNat = e
    rw [UInt8.toNat_ofNat']; omega
  · unfold tailM
    rw [← l2]
    conv => lhs; rw [h2]
    rw [List.drop_left, num4_four]
    omega
  · rw [show b.length - 5 - 4 * m = body.length by omega]
    conv => lhs; rw [h]
    rw [List.take_left]
theorem tail_parts {b : List UInt8} (h5 : 5 ≤ b.length) (hm : tailM b ≤ (b.length - 5) / 4) :
    ∃ body hb, b = body ++ (hb ++ (four (tailM b) ++ [UInt8.ofNat (tailE b)])) ∧ hb.length = 4 * tailM b ∧ body = b.take (b.length - 5 - 4 * tailM b) := by
  obtain ⟨N, hN⟩ : ∃ N, N = b.length - 5 - 4 * tailM b := ⟨_, rfl⟩
  refine ⟨b.take N, (b.drop N).take (4 * tailM b), ?_, ?_, by rw [hN]⟩
  · have e1 : (b.drop N).drop (4 * tailM b) = b.drop (b.length - 5) := by rw [List.drop_drop]; congr 1; omega
    have e2 : four (tailM b) = (b.drop (b.length - 5)).take 4 := four_num4 (by rw [List.length_drop]; omega)
    have e3 : (b.drop (b.length - 5)).drop 4 = [UInt8.ofNat (tailE b)] := by
      rw [List.drop_drop, show b.length - 5 + 4 = b.length - 1 by omega]
      have hg : b[b.length - 1]? = some (b.getD (b.length - 1) 0) := by
        rw [List.getD_eq_getElem?_getD, List.getElem?_eq_getElem (by omega)]; rfl
      rw [List.drop_eq_getElem_cons (by omega), List.drop_of_length_le (by omega)]
      unfold tailE
      rw [UInt8.ofNat_toNat, List.getD_eq_getElem?_getD, List.getElem?_eq_getElem (by omega)]
      rfl
    rw [e2, ← e3, List.take_append_drop, ← e1, List.take_append_drop, List.take_append_drop]
  · rw [List.length_take, List.length_drop]; omega

theorem parse_same {b : List UInt8} (hb : b.length < 4294967296) : parseP b = parseQ b := by
  have key : ∀ l, parseP b = some l ↔ parseQ b = some l := by
    intro l
    unfold parseP parseQ splitB
    by_cases h5 : b.length < 5
    · rw [if_pos h5, if_pos h5]
    rw [if_neg h5, if_neg h5]
    by_cases hm : (b.length - 5) / 4 < tailM b
    · rw [if_pos (Or.inl hm), if_pos hm]
    rw [if_neg hm]
    obtain ⟨body, hd, h1, h2, h3⟩ := tail_parts (b := b) (by omega) (by omega)
    rw [← h3]
    have hblen : b.length = body.length + 4 * tailM b + 5 := by
      have := congrArg List.length h1
      simp only [List.length_append, four_len, List.length_singleton] at this
      omega
    have hheads : (List.range (tailM b)).map (fun i => num4 (b.drop (b.length - 5 - 4 * (tailM b - i)))) = (List.range (tailM b)).map (fun i => num4 ((hd ++ (four (tailM b) ++ [UInt8.ofNat (tailE b)])).drop (4 * i))) := by
      refine List.map_congr_left fun i hi => ?_
      have hi' := List.mem_range.1 hi
      rw [show b.length - 5 - 4 * (tailM b - i) = body.length + 4 * i by omega, ← List.drop_drop]
      conv => lhs; rw [h1]
      rw [List.drop_left]
    have hflat := flat4_of hd (tailM b) (four (tailM b) ++ [UInt8.ofNat (tailE b)]) h2
    by_cases he : tailE b < 1 ∨ 64 < tailE b
    · rw [if_pos (Or.inr he)]
      constructor
      · intro h; cases h
      · intro h
        cases ha : allE [] body with
        | none => rw [ha] at h; cases h
        | some es =>
          rw [ha] at h
          dsimp only at h
          unfold buildR at h
          rw [if_pos (by omega : ((tailE b : Nat) : Int) < 1 ∨ 64 < ((tailE b : Nat) : Int) ∨ 20000 < (es.map (·.2)).length)] at h
          rw [if_neg (by intro e; injection e with _ e; cases e)] at h
          cases h
    rw [if_neg (by omega : ¬ ((b.length - 5) / 4 < tailM b ∨ tailE b < 1 ∨ 64 < tailE b))]
    dsimp only
    rw [hheads]
    generalize hHS : (List.range (tailM b)).map (fun i => num4 ((hd ++ (four (tailM b) ++ [UInt8.ofNat (tailE b)])).drop (4 * i))) = HS at *
    have hHSl : HS.length = tailM b := by rw [← hHS]; simp
    constructor
    · intro h
      cases hp : allP (tailE b) body.length 0 [] body with
      | none => rw [hp] at h; cases h
      | some q =>
        obtain ⟨out, hs⟩ := q
        rw [hp] at h
        dsimp only at h
        split at h
        · rename_i hc
          injection h with h
          subst h
          obtain ⟨es, a1, a2, a3, a4, a5⟩ := (allP_iff (Nat.le_refl _) out hs).1 hp
          rw [Nat.sub_self] at a5
          rw [a1]
          dsimp only
          rw [← a2, if_pos]
          unfold buildR
          rw [if_neg (by omega), if_pos ((rises_from out).1 a4), Int.toNat_natCast]
          rw [builtB_parts, ← a3, ← a5, hc.1, hHSl, hflat, ← (allE_put a1).1, ← h1]
        · cases h
    · intro h
      cases ha : allE [] body with
      | none => rw [ha] at h; cases h
      | some es =>
        rw [ha] at h
        dsimp only at h
        split at h
        · rename_i hc
          injection h with h
          subst h
          unfold buildR at hc
          split at hc
          · injection hc with _ e; cases e
          · rename_i hg
            split at hc
            · rename_i hr
              injection hc with hc _
              rw [Int.toNat_natCast, builtB_parts] at hc
              generalize hE : entriesOf (tailE b) 0 [] (es.map (·.2)) = E at *
              have hEl : E.length = es.length := by rw [← hE, entriesOf_len, List.length_map]
              have hHl := headsOf_len (tailE b) 0 0 E
              have hesl : es.length ≤ 20000 := by
                have := hg
                rw [List.length_map] at this
                omega
              obtain ⟨_, _, t3, _, t5, t6⟩ := tail_of (bodyOf E) ((headsOf (tailE b) 0 0 E).flatMap four) (headsOf (tailE b) 0 0 E).length (tailE b) b hc.symm (by omega) (by omega) (by rw [flat4_len])
              have hbody : bodyOf E = body := by rw [h3, t3]; exact t5.symm
              have hsm := allE_small ha
              have hEs : E = es := by
                have hc1 : Chain [] E := by
                  rw [← hE]
                  have gen : ∀ (i : Nat) (last : List UInt8) (l : List KV), (i % tailE b = 0 ∨ True) → Chain last (entriesOf (tailE b) i last l) := by
                    intro i last l _
                    induction l generalizing i last with
                    | nil => exact trivial
                    | cons p t ih =>
                      refine ⟨?_, ih (i + 1) p.1 (.inr trivial)⟩
                      split
                      · exact ⟨Nat.zero_le _, by simp, Nat.zero_le _⟩
                      · refine ⟨comm_le_left _ _, ?_, comm_le_right _ _⟩
                        apply List.ext_getElem?
                        intro j
                        by_cases hj : j < comm last p.1
                        · rw [List.getElem?_take_of_lt hj, List.getElem?_take_of_lt hj, comm_same hj]
                        · rw [List.getElem?_eq_none (by rw [List.length_take]; omega), List.getElem?_eq_none (by rw [List.length_take]; omega)]
                  exact gen 0 [] _ (.inr trivial)
                have hsnd : E.map (·.2) = es.map (·.2) := by rw [← hE, entriesOf_snd]
                have hall := allE_body hc1 (by simp) (fun e he => by
                  have hm : e.2 ∈ es.map (·.2) := by rw [← hsnd]; exact List.mem_map_of_mem he
                  obtain ⟨e', he', hee⟩ := List.mem_map.1 hm
                  have := hsm e' he'
                  rw [hee] at this
                  simp at this
                  omega)
                rw [hbody, ha] at hall
                injection hall with hall
                exact hall.symm
              subst hEs
              have hH : headsOf (tailE b) 0 0 E = HS := by
                have hle : ∀ x ∈ headsOf (tailE b) 0 0 E, x < 4294967296 := fun x hx => by
                  have := headsOf_le (tailE b) 0 0 E x hx
                  rw [hbody] at this
                  omega
                have hbs : (headsOf (tailE b) 0 0 E).flatMap four = hd := by
                  have e1 := hc
                  conv at e1 => rhs; rw [h1]
                  rw [hbody] at e1
                  have e2 := List.append_cancel_left e1
                  exact (List.append_inj e2 (by rw [flat4_len, h2, t3])).1
                apply List.ext_getElem
                · rw [hHSl, t3]
                · intro i hi1 hi2
                  have := flat4_at (headsOf (tailE b) 0 0 E) (four (tailM b) ++ [UInt8.ofNat (tailE b)]) hi1 (hle _ (List.getElem_mem hi1))
                  rw [hbs] at this
                  rw [← this]
                  subst hHS
                  simp
              have hp := (allP_iff (every := tailE b) (tot := body.length) (i := 0) (last := []) (b := body) (Nat.le_refl _) (E.map (·.2)) HS).2
                ⟨E, ha, rfl, hE.symm, (rises_from _).2 hr, by rw [Nat.sub_self, hH]⟩
              rw [hp]
              dsimp only
              rw [if_pos ⟨rfl, by rw [List.length_map]; exact hesl⟩]
            · injection hc with _ e; cases e
        · cases h
  cases h1 : parseP b with
  | some l => exact ((key l).1 h1).symm
  | none =>
    cases h2 : parseQ b with
    | none => rfl
    | some l => rw [(key l).2 h2] at h1; cases h1
end Go.Proofs.Yteagjjiggneheaa
