/-
  What was synced last stays, in plain words.
-/
import Derived.Test.YtpakihbejdpmoaaSimA
namespace Go.Proofs.Ytpakihbejdpmoaa
open Go.RowKit
set_option linter.unusedVariables false

/-- A file read. -/
def pRead (p : PS) (nm : ByteArray) : Int × List UInt8 :=
  if p.off = true then (8, []) else if isNm nm = false then (1, []) else match dFind p.now nm.data.toList with
    | none => (4, [])
    | some k => (0, match p.files[k]? with
      | some f => f.1
      | none => [])
theorem find_cons (e : List UInt8 × Nat) (l : Dir) (nm : List UInt8) : dFind (e :: l) nm = if (e.1 == nm) = true then some e.2 else dFind l nm := by
  unfold dFind
  rw [List.find?_cons]
  cases e.1 == nm <;> rfl
theorem find_ins_ne {e : List UInt8 × Nat} {nm : List UInt8} (h : e.1 ≠ nm) (l : Dir) : dFind (dIns e l) nm = dFind l nm := by
  have hb : ¬ (e.1 == nm) = true := by rw [beq_iff_eq]; exact h
  induction l with
  | nil => unfold dIns; rw [find_cons, if_neg hb]
  | cons y r ih =>
    unfold dIns
    split
    · rw [find_cons, if_neg hb]
    · rw [find_cons, find_cons, ih]
theorem find_del_ne {z nm : List UInt8} (h : z ≠ nm) (l : Dir) : dFind (dDel l z) nm = dFind l nm := by
  induction l with
  | nil => rfl
  | cons y r ih =>
    unfold dDel at ih ⊢
    rw [List.filter_cons]
    split
    · rw [find_cons, find_cons, ih]
    · rename_i hy
      have hy : y.1 = z := by simpa using hy
      have hb : ¬ (y.1 == nm) = true := by rw [beq_iff_eq, hy]; exact h
      rw [find_cons, if_neg hb, ih]
theorem find_put_ne {z nm : List UInt8} (h : z ≠ nm) (l : Dir) (q : Nat) : dFind (dPut l z q) nm = dFind l nm := by
  unfold dPut
  rw [find_ins_ne h, find_del_ne h]
theorem find_del_eq (nm : List UInt8) (l : Dir) : dFind (dDel l nm) nm = none := by
  unfold dFind
  rw [Option.map_eq_none_iff, List.find?_eq_none]
  intro e he
  have := (List.mem_filter.1 he).2
  simpa using this
theorem find_ins_eq {e : List UInt8 × Nat} {l : Dir} (h : dFind l e.1 = none) : dFind (dIns e l) e.1 = some e.2 := by
  induction l with
  | nil => unfold dIns; rw [find_cons, if_pos (by simp)]
  | cons y r ih =>
    rw [find_cons] at h
    have hy : ¬ (y.1 == e.1) = true := by
      intro hb
      rw [if_pos hb] at h
      cases h
    rw [if_neg hy] at h
    unfold dIns
    split
    · rw [find_cons, if_pos (by simp)]
    · rw [find_cons, if_neg hy, ih h]
theorem find_put_eq (nm : List UInt8) (l : Dir) (q : Nat) : dFind (dPut l nm q) nm = some q := find_ins_eq (e := (nm, q)) (find_del_eq nm l)

/-- A store with the power on, and no plan. -/
structure Still (p : PS) : Prop where
  plan : p.plan = []
  off : p.off = false
theorem meet_still {p : PS} (h : Still p) (ok : Bool) : meetE ok p.off p.plan = if ok = true then (0, [], false) else (1, [], false) := by
  rw [h.plan, h.off]
  cases ok <;> rfl
theorem met_still {p : PS} (h : Still p) (e : Int) : p.met (e, [], false) = p := by
  cases p
  obtain ⟨h1, h2⟩ := h
  dsimp only at h1 h2
  subst h1
  subst h2
  rfl
/-- The file under a name has these bytes, so many of them synced. -/
structure Has (p : PS) (nm : ByteArray) (k : Nat) (f : List UInt8 × Nat) : Prop where
  ok : isNm nm = true
  find : dFind p.now nm.data.toList = some k
  file : p.files[k]? = some f
theorem Has.read {p : PS} {nm : ByteArray} {k : Nat} {f : List UInt8 × Nat} (h : Has p nm k f) (hs : Still p) : pRead p nm = (0, f.1) := by
  unfold pRead
  rw [if_neg (by rw [hs.off]; simp), if_neg (by rw [h.ok]; simp), h.find]
  dsimp only
  rw [h.file]
theorem updAt_same {l : List (List UInt8 × Nat)} {k : Nat} {f : List UInt8 × Nat} (h : l[k]? = some f) (g : List UInt8 × Nat → List UInt8 × Nat) : (updAt l k g)[k]? = some (g f) := by
  unfold updAt
  rw [h]
  dsimp only
  rw [List.getElem?_set_self (List.getElem?_eq_some_iff.1 h).1]
theorem updAt_ne {l : List (List UInt8 × Nat)} {k j : Nat} (h : j ≠ k) (g : List UInt8 × Nat → List UInt8 × Nat) : (updAt l j g)[k]? = l[k]? := by
  unfold updAt
  split
  · rw [List.getElem?_set_ne h]
  · rfl
/-- Behind a creation there is a file of that name. -/
theorem create_has {p : PS} {nm : ByteArray} (hs : Still p) (hn : isNm nm = true) (hix : ∀ e ∈ p.now, e.2 < p.files.length) : Still (pCreate p nm (meetE (isNm nm) p.off p.plan)).2 ∧ ∃ k f, Has (pCreate p nm (meetE (isNm nm) p.off p.plan)).2 nm k f := by
  rw [meet_still hs, hn, if_pos rfl]
  unfold pCreate
  rw [if_neg (by simp), met_still hs]
  cases hf : dFind p.now nm.data.toList with
  | some k =>
    rw [if_pos (by rfl)]
    have hk := hix _ (dFind_mem hf)
    exact ⟨hs, k, p.files[k], ⟨hn, hf, List.getElem?_eq_getElem hk⟩⟩
  | none =>
    rw [if_neg (by simp)]
    refine ⟨⟨hs.plan, hs.off⟩, p.files.length, ([], 0), ⟨hn, ?_, ?_⟩⟩
    · show dFind (madeD p.now ⟨0, nm.data.toList, [], p.files.length⟩) nm.data.toList = _
      unfold madeD
      rw [if_pos rfl]
      exact find_put_eq _ _ _
    · show (p.files ++ [(([] : List UInt8), 0)])[p.files.length]? = _
      rw [List.getElem?_append_right (Nat.le_refl _), Nat.sub_self]
      rfl
theorem append_has {p : PS} {nm : ByteArray} {k : Nat} {f : List UInt8 × Nat} (hs : Still p) (h : Has p nm k f) (bs : List UInt8) :
    pAppend p nm bs (meetE (isNm nm) p.off p.plan) = if p.room < (psize p : Int) + (bs.length : Int) then (6, p) else (0, { p with files := updAt p.files k fun f => (f.1 ++ bs, f.2) }) := by
  rw [meet_still hs, h.ok, if_pos rfl]
  unfold pAppend
  rw [if_neg (by simp), met_still hs, h.find]
theorem sync_has {p : PS} {nm : ByteArray} {k : Nat} {f : List UInt8 × Nat} (hs : Still p) (h : Has p nm k f) :
    pSync p nm (meetE (isNm nm) p.off p.plan) = (0, { p with files := updAt p.files k fun f => (f.1, f.1.length) }) := by
  rw [meet_still hs, h.ok, if_pos rfl]
  unfold pSync
  rw [if_neg (by simp), met_still hs, h.find]
theorem syncDir_still {p : PS} (hs : Still p) : pSyncDir p (meetE true p.off p.plan) = (0, { p with disk := p.now, kept := [] }) := by
  rw [meet_still hs, if_pos rfl]
  unfold pSyncDir
  rw [if_neg (by simp), met_still hs]
/-- What a crash leaves of a file: a beginning of it, with all that was synced. -/
theorem cut_has {kl : List Int} {d : Dir} {fs : List (List UInt8 × Nat)} {k : Nat} {S U : List UInt8} (h : fs[k]? = some (S ++ U, S.length)) (j : Nat) : ∃ u v n, (pCutN kl d fs j)[k]? = some (S ++ u, n) ∧ S ++ U = (S ++ u) ++ v ∧ S.length ≤ n := by
  induction j with
  | zero => exact ⟨U, [], S.length, h, by simp, Nat.le_refl _⟩
  | succ j ih =>
    obtain ⟨u, v, n, h1, h2, h3⟩ := ih
    unfold pCutN
    cases hd : d[j]? with
    | none => exact ⟨u, v, n, h1, h2, h3⟩
    | some e =>
      dsimp only
      by_cases he : e.2 = k
      · rw [he, updAt_same h1]
        unfold cutP
        dsimp only
        obtain ⟨m, hm⟩ : ∃ m, m = n + keepP kl j (S ++ u, n) := ⟨_, rfl⟩
        rw [← hm]
        have hSm : S.length ≤ m := by omega
        have ht : (S ++ u).take m = S ++ u.take (m - S.length) := by
          rw [List.take_append, List.take_of_length_le hSm]
        refine ⟨u.take (m - S.length), u.drop (m - S.length) ++ v, m, by rw [ht], ?_, hSm⟩
        rw [h2, List.append_assoc, List.append_assoc]
        congr 1
        rw [← List.append_assoc, List.take_append_drop]
      · rw [updAt_ne he]
        exact ⟨u, v, n, h1, h2, h3⟩
/-- Of a directory that was synced, with perhaps another name made since, the name stays behind any crash. -/
theorem crash_find {p : PS} {nm z : List UInt8} {k q : Nat} (hd : dFind p.disk nm = some k) (hk : p.kept = [] ∨ z ≠ nm ∧ p.kept = [⟨0, z, [], q⟩]) (ch : Int) : dFind (pCraD p ch) nm = some k := by
  unfold pCraD
  rcases hk with hk | ⟨hne, hk⟩
  · rw [hk, List.take_nil]
    exact hd
  · rw [hk]
    cases hn : nCh ch [(⟨0, z, [], q⟩ : Rk)].length with
    | zero => exact hd
    | succ i =>
      rw [List.take_succ_cons, List.take_nil]
      show dFind (madeD p.disk ⟨0, z, [], q⟩) nm = _
      unfold madeD
      rw [if_pos rfl, find_put_ne hne]
      exact hd

/-- What StoreLasts asks of the stores p5, p6, p8. -/
structure LastOk (p5 p6 p8 : PS) (nm : ByteArray) : Prop where
  r5 : (pRead p5 nm).1 = 0
  r6 : (pRead p6 nm).1 = 0
  r8 : (pRead p8 nm).1 = 0
  pre : ∃ u v, (pRead p8 nm).2 = (pRead p5 nm).2 ++ u ∧ (pRead p6 nm).2 = (pRead p8 nm).2 ++ v
def zz : ByteArray := ⟨#[122, 122, 45, 111, 116, 104, 101, 114]⟩
theorem isNm_zz : isNm zz = true := by decide
theorem lasts_law {p1 p2 p3 p4 p5 p6 p7 p8 : PS} {nm : ByteArray} {bs more : List UInt8} {a b c : Int} {n : Int} {kl : List Int} (hs : Still p1) (hix : ∀ e ∈ p1.now, e.2 < p1.files.length)
    (h2 : p2 = (pCreate p1 nm (meetE (isNm nm) p1.off p1.plan)).2) (h3 : (a, p3) = pAppend p2 nm bs (meetE (isNm nm) p2.off p2.plan)) (h4 : (b, p4) = pSync p3 nm (meetE (isNm nm) p3.off p3.plan)) (h5 : (c, p5) = pSyncDir p4 (meetE true p4.off p4.plan))
    (h6 : p6 = (pAppend p5 nm more (meetE (isNm nm) p5.off p5.plan)).2) (h7 : p7 = (pCreate p6 zz (meetE (isNm zz) p6.off p6.plan)).2) (h8 : p8 = pCrash p7 n kl) :
    (a ≠ 0 → a = 1 ∨ a = 6) ∧ (a = 0 → b = 0 ∧ c = 0 ∧ LastOk p5 p6 p8 nm) := by
  cases hn : isNm nm with
  | false =>
    have e2 : meetE (isNm nm) p1.off p1.plan = (1, [], false) := by rw [meet_still hs, hn]; rfl
    have hp2 : p2 = p1 := by
      rw [h2, e2]
      unfold pCreate
      rw [if_pos (by simp), met_still hs]
    rw [hp2, e2] at h3
    unfold pAppend at h3
    rw [if_pos (by simp)] at h3
    injection h3 with h3
    subst h3
    exact ⟨fun _ => .inl rfl, fun h => by cases h⟩
  | true =>
    obtain ⟨hs2, k, f, hh2⟩ := create_has hs hn hix
    rw [← h2] at hs2 hh2
    rw [append_has hs2 hh2] at h3
    by_cases hfull : p2.room < (psize p2 : Int) + (bs.length : Int)
    · rw [if_pos hfull] at h3
      injection h3 with h3
      subst h3
      exact ⟨fun _ => .inr rfl, fun h => by cases h⟩
    · rw [if_neg hfull] at h3
      injection h3 with ha hp3
      subst ha
      refine ⟨fun h => (h rfl).elim, fun _ => ?_⟩
      have hs3 : Still p3 := by rw [hp3]; exact ⟨hs2.plan, hs2.off⟩
      have hh3 : Has p3 nm k (f.1 ++ bs, f.2) := by rw [hp3]; exact ⟨hn, hh2.find, updAt_same hh2.file _⟩
      rw [sync_has hs3 hh3] at h4
      injection h4 with hb hp4
      have hs4 : Still p4 := by rw [hp4]; exact ⟨hs3.plan, hs3.off⟩
      obtain ⟨S, hS⟩ : ∃ S, S = f.1 ++ bs := ⟨_, rfl⟩
      have hh4 : Has p4 nm k (S, S.length) := by rw [hp4, hS]; exact ⟨hn, hh3.find, updAt_same hh3.file _⟩
      rw [syncDir_still hs4] at h5
      injection h5 with hc hp5
      have hs5 : Still p5 := by rw [hp5]; exact ⟨hs4.plan, hs4.off⟩
      have hh5 : Has p5 nm k (S, S.length) := by rw [hp5]; exact ⟨hn, hh4.find, hh4.file⟩
      have hd5 : p5.disk = p5.now ∧ p5.kept = [] := by rw [hp5]; exact ⟨rfl, rfl⟩
      have h6' : Still p6 ∧ p6.now = p5.now ∧ p6.disk = p5.disk ∧ p6.kept = [] ∧ ∃ U, Has p6 nm k (S ++ U, S.length) := by
        rw [append_has hs5 hh5] at h6
        by_cases hf6 : p5.room < (psize p5 : Int) + (more.length : Int)
        · rw [if_pos hf6] at h6
          rw [h6]
          exact ⟨hs5, rfl, rfl, hd5.2, [], by rw [List.append_nil]; exact hh5⟩
        · rw [if_neg hf6] at h6
          rw [h6]
          exact ⟨⟨hs5.plan, hs5.off⟩, rfl, rfl, hd5.2, more, ⟨hn, hh5.find, updAt_same hh5.file _⟩⟩
      obtain ⟨hs6, hn6, hk6, hkp6, U, hh6⟩ := h6'
      have h7' : p7.files[k]? = some (S ++ U, S.length) ∧ p7.disk = p6.disk ∧ (p7.kept = [] ∨ zz.data.toList ≠ nm.data.toList ∧ ∃ q, p7.kept = [⟨0, zz.data.toList, [], q⟩]) := by
        rw [meet_still hs6, isNm_zz, if_pos rfl] at h7
        unfold pCreate at h7
        rw [if_neg (by simp), met_still hs6] at h7
        cases hf : dFind p6.now zz.data.toList with
        | some j =>
          rw [hf, if_pos (by rfl)] at h7
          rw [h7]
          exact ⟨hh6.file, rfl, .inl hkp6⟩
        | none =>
          rw [hf, if_neg (by simp)] at h7
          rw [h7]
          refine ⟨?_, rfl, .inr ⟨fun e => ?_, p6.files.length, ?_⟩⟩
          · show (p6.files ++ [(([] : List UInt8), 0)])[k]? = _
            rw [List.getElem?_append_left (List.getElem?_eq_some_iff.1 hh6.file).1]
            exact hh6.file
          · rw [e, hh6.find] at hf
            cases hf
          · show p6.kept ++ [_] = _
            rw [hkp6]
            rfl
      obtain ⟨hf7, hdk7, hkp7⟩ := h7'
      have hfd : dFind (pCraD p7 n) nm.data.toList = some k := by
        have hd : dFind p7.disk nm.data.toList = some k := by rw [hdk7, hk6, hd5.1]; exact hh5.find
        rcases hkp7 with h | ⟨h, q, h'⟩
        · exact crash_find (z := []) (q := 0) hd (.inl h) n
        · exact crash_find hd (.inr ⟨h, h'⟩) n
      obtain ⟨u, v, m, g1, g2, g3⟩ := cut_has (kl := kl) (d := pCraD p7 n) hf7 (pCraD p7 n).length
      have hs8 : Still p8 := by rw [h8]; exact ⟨rfl, rfl⟩
      have hh8 : Has p8 nm k (S ++ u, m) := by rw [h8]; exact ⟨hn, hfd, g1⟩
      refine ⟨hb, hc, ?_⟩
      have e5 := hh5.read hs5
      have e6 := hh6.read hs6
      have e8 := hh8.read hs8
      exact ⟨by rw [e5], by rw [e6], by rw [e8], u, v, by rw [e5, e8], by rw [e6, e8]; exact g2⟩
end Go.Proofs.Ytpakihbejdpmoaa
