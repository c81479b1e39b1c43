/-
  append of bytes inside a region that draws its order.
-/
import Derived.Test.YtpakihbejdpmoaaOwn
import Derived.Deep.RegionLaw
namespace Go.Proofs.Ytpakihbejdpmoaa
open Go.RowKit
set_option linter.unusedVariables false

theorem wp_append_bytes {P : Program} (w : World) {o : Oper} {a : Act} {K : Act → World → Prop} {Q : Exit → Act → World → Prop} (s x : Operand) (t : TypeId)
    (ho : o.op = .call { callee := .builtin .append, args := #[s, x], argTypes := #[t, t] })
    (base : Nat) (e : TypeId) (ht : P.underlying t = some (.slice e)) (hinf : (P.info? e).map (fun i => (i.zero, i.size, i.bytes)) = some (some (.int .u8 0), 1, 1))
    (A0 : Option Addr) (n0 c0 : Nat) (bs : List UInt8) (hs : a.eval s = .slice A0 n0 c0) (hn0 : n0 = bs.length) (hown : OwnB w base e A0 c0 bs)
    (B : Nat) (A : Option Addr) (m c : Nat) (cs : List UInt8) (hx : a.eval x = .slice A m c) (hm : m = cs.length) (hr : Bytes w B A cs)
    (hbytes : bs.length + cs.length ≤ 140737488355328) (hbase : base ≤ w.heap.size)
    (h : ∀ (ds : List UInt8) (A' : Option Addr) (c' : Nat) (w' : World), Hid (ds = bs ++ cs) → ds.length ≤ 140737488355328 → OwnB w' base e A' c' ds → w.grownBy w' (A0.map (·.block)) →
      (A'.map (·.block) = A0.map (·.block) ∨ A'.map (·.block) = some w.heap.size) → K (a.put o.dst (.slice A' ds.length c')) w') : o.wp P a w K Q := by
  obtain ⟨i, hi, hz, hsz, hby⟩ := info_parts hinf
  subst hn0 hm
  obtain ⟨v', w', hrun, h2, h3, h4⟩ := run_append_row (P := P) w base t o.type e i _ 1 1 ht hi hz hsz hby rfl (by omega) _ bs.length (bs.map byv) hown B A cs.length c (cs.map byv) (by simp) hr (byv_one cs) (by unfold maxLen; omega) (by omega) hbase
  obtain ⟨A', c', rfl, hc1, hc2⟩ := own_shape h2
  rw [ownBlock_slice] at h3
  rw [ownBlock_slice, ownBlock_slice] at h4
  unfold Oper.wp execOp
  simp only [ho, resolve, invoke, builtin, Sem.run_bind, Sem.run_pure, Result.andThen_ok, List.map_toArray, List.map_cons, List.map_nil, hs, hx, hrun]
  have e1 : bs.length + cs.length = (bs ++ cs).length := by rw [List.length_append]
  have e2 : bs.map byv ++ cs.map byv = (bs ++ cs).map byv := by rw [List.map_append]
  rw [e1, e2] at h2
  rw [e1]
  exact h (bs ++ cs) A' c' w' rfl (by rw [List.length_append]; omega) h2 h3 h4

theorem step_append_bytes {P : Program} (w : World) {ops : Array Oper} {o : Oper} {a : Act} {K : Act → World → Prop} {Q : Exit → Act → World → Prop} {E : Prop} (hgd : o.guard = none) (s x : Operand) (t : TypeId)
    (ho : o.op = .call { callee := .builtin .append, args := #[s, x], argTypes := #[t, t] })
    (base : Nat) (e : TypeId) (ht : P.underlying t = some (.slice e)) (hinf : (P.info? e).map (fun i => (i.zero, i.size, i.bytes)) = some (some (.int .u8 0), 1, 1))
    (A0 : Option Addr) (n0 c0 : Nat) (bs : List UInt8) (hs : a.eval s = .slice A0 n0 c0) (hn0 : n0 = bs.length) (hown : OwnB w base e A0 c0 bs)
    (B : Nat) (A : Option Addr) (m c : Nat) (cs : List UInt8) (hx : a.eval x = .slice A m c) (hm : m = cs.length) (hr : Bytes w B A cs)
    (hbytes : bs.length + cs.length ≤ 140737488355328) (hbase : base ≤ w.heap.size)
    (h : ∀ (ds : List UInt8) (A' : Option Addr) (c' : Nat) (w' : World), Hid (ds = bs ++ cs) → ds.length ≤ 140737488355328 → OwnB w' base e A' c' ds → w.grownBy w' (A0.map (·.block)) →
      (A'.map (·.block) = A0.map (·.block) ∨ A'.map (·.block) = some w.heap.size) → K (a.put o.dst (.slice A' ds.length c')) w') :
    if Region.wanted o (yielded ops a.tmps) = true then Oper.wp P o a w K Q else E := by
  have hw : Region.wanted o (yielded ops a.tmps) = true := by simp [Region.wanted, hgd]
  rw [if_pos hw]
  exact wp_append_bytes w s x t ho base e ht hinf A0 n0 c0 bs hs hn0 hown B A m c cs hx hm hr hbytes hbase h
end Go.Proofs.Ytpakihbejdpmoaa
