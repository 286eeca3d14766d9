/-
  The law TrapOthers: a panic that goes through any number of tries; its walk. No conditions.
-/
import Derived.Test.YtlgnepkapcjfnaaTrapAwake
import Derived.Test.YtlgnepkapcjfnaaKit
import Derived.Laws.EntriesVeiled
namespace Go.Proofs.Ytlgnepkapcjfnaa.Oth
open Go.RowKit

abbrev NoS : Nat → Prop := fun _ => False

theorem enter12 (cap : Array Value) (w : World) : (callFunc 12 cap).run Try.prog w = .ok (.enter 12 cap) w := by kernel_rfl
theorem enter13 (cap : Array Value) (w : World) : (callFunc 13 cap).run Try.prog w = .ok (.enter 13 cap) w := by kernel_rfl
theorem enter15 (cap : Array Value) (w : World) : (callFunc 15 cap).run Try.prog w = .ok (.enter 15 cap) w := by kernel_rfl

/-- The panic of a text, as it stands when k tries have let it go on. -/
def olds (s : ByteArray) (k : Nat) : List PanicEntry := List.replicate k { v := .iface 9 (.string s), recovered := true }
def chainOf (s : ByteArray) (k : Nat) : List PanicEntry := { v := .iface 9 (.string s), recovered := false } :: olds s k
theorem olds_plain (s : ByteArray) (k : Nat) : (olds s k).all (fun p => !p.goexit) = true := by
  unfold olds
  rw [List.all_eq_true]
  intro p hp
  rw [List.eq_of_mem_replicate hp]
  rfl

/-- F is a function that panics with s, within k tries. -/
def Chain (s : ByteArray) (e : Int) : Nat → Value → World → Prop
  | 0, F, w => ∃ be bs, F = .func (.func 12) #[] #[.pointer (some ⟨be, 0, none⟩), .pointer (some ⟨bs, 0, none⟩)] ∧ Blk w be 3 #[.int .i64 e] ∧ Blk w bs 9 #[.string s]
  | k + 1, F, w => ∃ b F', F = .func (.func 15) #[] #[.pointer (some ⟨b, 0, none⟩)] ∧ Blk w b 1 #[F'] ∧ Chain s e k F' w

theorem Chain.keep {s : ByteArray} {e : Int} {w w' : World} (hk : Keeps NoS w w') : ∀ (k : Nat) (F : Value), Chain s e k F w → Chain s e k F w'
  | 0, _, ⟨be, bs, h, h1, h2⟩ => ⟨be, bs, h, h1.keep hk (fun h => h), h2.keep hk (fun h => h)⟩
  | k + 1, _, ⟨b, F', h, h1, h2⟩ => ⟨b, F', h, h1.keep hk (fun h => h), Chain.keep hk k F' h2⟩

theorem inner_ok (be : Nat) (w : World) (he : Blk w be 3 #[.int .i64 0]) :
    Calls Try.prog 13 #[.pointer (some ⟨be, 0, none⟩)] w fun e w' => e = .returned (.tuple #[]) ∧ w = w' := by
  have ce : w.cell? ⟨be, 0, none⟩ = some (.int .i64 0) := he.cell 0
  clear he
  go_enter Try.func13, Try.ntmps13
  go_wp2_with (go_at_call 14; refine (throw_none _).mono ?_; rintro e w' ⟨rfl, rfl⟩)
  go_end0
  exact ⟨rfl, rfl⟩

theorem inner_no (y : Int) (hy : (y != 0) = true) (be : Nat) (w : World) (he : Blk w be 3 #[.int .i64 y]) :
    Calls Try.prog 13 #[.pointer (some ⟨be, 0, none⟩)] w fun e w' => e = .panicked [{ v := thrownV y, recovered := false }] ∧ w = w' := by
  have ce : w.cell? ⟨be, 0, none⟩ = some (.int .i64 y) := he.cell 0
  clear he
  go_enter Try.func13, Try.ntmps13
  go_wp2_with (go_at_call 14; refine (throw_some y hy _).mono ?_; rintro e w' ⟨rfl, rfl⟩)
  exact ⟨rfl, rfl, rfl⟩

theorem try_inner (y : Int) (be : Nat) (w : World) (he : Blk w be 3 #[.int .i64 y]) :
    Calls Try.prog 7 #[.func (.func 13) #[] #[.pointer (some ⟨be, 0, none⟩)]] w fun e w' => e = .returned (.int .i64 y) ∧ Keeps NoS w w' := by
  have hz : ∀ w' : World, w.alloc (.cells #[.int .i64 0] 27) = w' → (∃ y, w'.cell? ⟨w.heap.size, 0, none⟩ = some (.int .i64 y)) ∧ w'.frozen? ⟨w.heap.size, 0, none⟩ = false := by
    rintro w' rfl
    have hb := Blk.new w 27 #[.int .i64 0]
    exact ⟨⟨0, hb.cell 0⟩, hb.frozen 0⟩
  by_cases h : y = 0
  · subst h
    refine (try_returns _ _ (enter13 _) w _ (inner_ok be _ (he.alloc _)) hz).mono ?_
    rintro e w' ⟨rfl, w2, rfl, rfl⟩
    exact ⟨rfl, ((Keeps.refl _ _).alloc _).setCell (.inr (Nat.le_refl _)) _⟩
  · have hy : (y != 0) = true := by simpa using h
    refine (try_throws y [] rfl _ _ (enter13 _) w _ (inner_no y hy be _ (he.alloc _)) hz).mono ?_
    rintro e w' ⟨rfl, w2, rfl, rfl⟩
    exact ⟨rfl, (((Keeps.refl _ _).alloc _).alloc _).setCell (.inr (Nat.le_refl _)) _⟩

theorem do_zero (s : ByteArray) (y : Int) (be bs : Nat) (w : World) (he : Blk w be 3 #[.int .i64 y]) (hs : Blk w bs 9 #[.string s]) :
    Calls Try.prog 12 #[.pointer (some ⟨be, 0, none⟩), .pointer (some ⟨bs, 0, none⟩)] w fun e w' => e = .panicked (chainOf s 0) ∧ Keeps NoS w w' := by
  have HE := Lib.hid he
  have HS := Lib.hid hs
  clear he hs
  go_enter Try.func12, Try.ntmps12
  go_wp2_with (go_at_call 7; refine (try_inner y be w HE.out).mono ?_; rintro e w3 ⟨rfl, k3⟩; have c3 : w3.cell? ⟨bs, 0, none⟩ = some (.string s) := (HS.out.keep k3 (fun h => h)).cell 0; have K3 := Lib.hid k3; clear k3)
  exact ⟨rfl, rfl, K3.out⟩

/-- Every such function panics with s, and old memory stays. -/
theorem chain_panics (s : ByteArray) (y : Int) : ∀ (k : Nat) (F : Value) (w : World), Chain s y k F w →
    ∃ K cap, F = .func (.func K) #[] cap ∧ (∀ w, (callFunc K cap).run Try.prog w = .ok (.enter K cap) w) ∧ Calls Try.prog K cap w fun e w' => e = .panicked (chainOf s k) ∧ Keeps NoS w w'
  | 0, _, w, ⟨be, bs, h, h1, h2⟩ => ⟨_, _, h, enter12 _, do_zero s y be bs w h1 h2⟩
  | k + 1, _, w, ⟨b, F', h, h1, h2⟩ => by
    refine ⟨_, _, h, enter15 _, ?_⟩
    have k0 : Keeps NoS w (w.alloc (.cells #[.int .i64 0] 27)) := (Keeps.refl _ _).alloc _
    obtain ⟨K, cap, rfl, hK, hc⟩ := chain_panics s y k F' _ (h2.keep k0)
    have hT := try_panics s (olds s k) K cap hK w _ hc
    have cb : w.cell? ⟨b, 0, none⟩ = some (.func (.func K) #[] cap) := h1.cell 0
    have HT := Lib.hid hT
    have K0 := Lib.hid k0
    clear hT h1 h2 hc hK h k0
    go_enter Try.func15, Try.ntmps15
    go_wp2_with (go_at_call 7; refine HT.out.mono ?_; rintro e w3 ⟨rfl, w2, k2, rfl⟩; have K2 := Lib.hid k2; clear k2)
    exact ⟨rfl, rfl, (K0.out.trans K2.out).alloc _⟩

theorem assert_str (s : ByteArray) (w : World) : (Instr.typeAssert (.iface 9 (.string s)) 20 9 true).run Try.prog w = .ok (.tuple #[.string s, .bool true]) w := by kernel_rfl

theorem caught_closure (p q : Nat) (s : ByteArray) (older : List PanicEntry) (w : World) (hp : Blk w p 9 #[.string ⟨#[]⟩]) (hq : Blk w q 4 #[.bool false]) :
    CallsD Try.prog 27 #[.pointer (some ⟨p, 0, none⟩), .pointer (some ⟨q, 0, none⟩)] (.panicking ({ v := .iface 9 (.string s), recovered := false } :: older)) w fun e u' w' =>
      e = .returned (.tuple #[]) ∧ u' = .panicking ({ v := .iface 9 (.string s), recovered := true } :: older) ∧ w' = (w.setCell ⟨p, 0, none⟩ (.string s)).setCell ⟨q, 0, none⟩ (.bool true) := by
  have hta := fun w : World => assert_str s w
  have cp : w.cell? ⟨p, 0, none⟩ = some (.string ⟨#[]⟩) := hp.cell 0
  have fp := hp.frozen 0
  have hne : p ≠ q := hp.ne_ hq (by decide)
  have hq' : Blk (w.setCell ⟨p, 0, none⟩ (.string s)) q 4 #[.bool false] := hq.far (fun h => hne h.symm) _
  have cq : (w.setCell ⟨p, 0, none⟩ (.string s)).cell? ⟨q, 0, none⟩ = some (.bool false) := hq'.cell 0
  have fq : (w.setCell ⟨p, 0, none⟩ (.string s)).frozen? ⟨q, 0, none⟩ = false := hq'.frozen 0
  clear hp hq hq' hne
  refine callsD_of_wpS Try.func27 rfl fun c₀ cs hu => ?_
  apply wpS_seq
  apply wpS_region
  simp [wpOpsS, go_sem, recoverD, hu, Try.ntmps27, Exit.thenS]
  refine wpS_of_wp ?_
  simp [Array.replicate_succ]
  go_wp2
  cases c₀
  simp_all [bodyPostS, results, Try.results27, Exit.thenS]

theorem caught_any (s : ByteArray) (older : List PanicEntry) (ho : older.all (fun p => !p.goexit) = true) (K : FuncId) (cap : Array Value) (hK : ∀ w, (callFunc K cap).run Try.prog w = .ok (.enter K cap) w) (w : World)
    (h : Calls Try.prog K cap ((w.alloc (.cells #[.string ⟨#[]⟩] 9)).alloc (.cells #[.bool false] 4)) fun e w' => e = .panicked ({ v := .iface 9 (.string s), recovered := false } :: older) ∧ Keeps NoS ((w.alloc (.cells #[.string ⟨#[]⟩] 9)).alloc (.cells #[.bool false] 4)) w') :
    Calls Try.prog 16 #[.func (.func K) #[] cap] w fun e w' => e = .returned (.tuple #[.string s, .bool true]) ∧ Keeps NoS w w' := by
  have hmf : ∀ (fn : Fn) (first cap : Array Value) (w : World), (Instr.makeFunc fn first cap).run Try.prog w = .ok (.func fn first cap) w := fun _ _ _ _ => rfl
  obtain ⟨W, hW⟩ : ∃ W, (w.alloc (.cells #[.string ⟨#[]⟩] 9)).alloc (.cells #[.bool false] 4) = W := ⟨_, rfl⟩
  rw [hW] at h
  have kW : Keeps NoS w W := by rw [← hW]; exact ((Keeps.refl _ _).alloc _).alloc _
  have hp : Blk W w.heap.size 9 #[.string ⟨#[]⟩] := by rw [← hW]; exact (Blk.new _ _ _).alloc _
  have hq : Blk W (w.heap.size + 1) 4 #[.bool false] := by rw [← hW]; simpa using Blk.new (w.alloc (.cells #[.string ⟨#[]⟩] 9)) 4 #[.bool false]
  have HO := Lib.hid ho
  have HW := Lib.hid hW
  have HKW := Lib.hid kW
  have HP := Lib.hid hp
  have HQ := Lib.hid hq
  have H := Lib.hid h
  clear ho hW kW hp hq h
  go_enter_defers Try.func16, Try.ntmps16
  go_wp2_with fail
  rw [HW.out]
  refine H.out.mono ?_
  rintro e w2 ⟨rfl, k2⟩
  have K2 := Lib.hid k2
  clear k2
  go_wp2
  refine leaves_cons (f := 27) (args := #[.pointer (some ⟨w.heap.size, 0, none⟩), .pointer (some ⟨w.heap.size + 1, 0, none⟩)]) (by simp) (by simp [go_sem]) ?_
  refine (caught_closure _ _ s older w2 (HP.out.keep K2.out (fun h => h)) (HQ.out.keep K2.out (fun h => h))).mono ?_
  rintro e u' w'' ⟨rfl, rfl, rfl⟩
  have hs := settle_recovered (.iface 9 (.string s)) older HO.out
  simp only [hs]
  have b1 : Blk ((w2.setCell ⟨w.heap.size, 0, none⟩ (.string s)).setCell ⟨w.heap.size + 1, 0, none⟩ (.bool true)) w.heap.size 9 #[.string s] := by
    simpa using (((HP.out.keep K2.out (fun h => h)).set_ 0 (.string s)).far (p := ⟨w.heap.size + 1, 0, none⟩) (by simp) (.bool true))
  have b2 : Blk ((w2.setCell ⟨w.heap.size, 0, none⟩ (.string s)).setCell ⟨w.heap.size + 1, 0, none⟩ (.bool true)) (w.heap.size + 1) 4 #[.bool true] := by
    simpa using (((HQ.out.keep K2.out (fun h => h)).far (p := ⟨w.heap.size, 0, none⟩) (by simp) (.string s)).set_ 0 (.bool true))
  have c1 := b1.cell 0
  have c2 := b2.cell 0
  simp [Leaves, results, Try.results16, go_sem, c1, c2]
  exact ((HKW.out.trans K2.out).setCell (.inr (Nat.le_refl _)) _).setCell (.inr (Nat.le_succ _)) _

theorem bytes_beq (s : ByteArray) : (s.toList == s.toList) = true := by simp

set_option maxHeartbeats 1600000 in
theorem others_walk20 (d : Int) (s : ByteArray) (y : Int) (w : World) (h0 : 0 ≤ d) (h20 : d ≤ 20) (hs : s.size ≤ 100) :
    Calls Try.prog 4 #[.int .u8 d, .string s, .int .i64 y] w fun e w' => e = .returned (.bool true) ∧ Below w.heap.size w w' := by
  obtain ⟨W, hW⟩ : ∃ W, (w.alloc (.cells #[.string s] 9)).alloc (.cells #[.int .i64 y] 3) = W := ⟨_, rfl⟩
  have kW : Keeps NoS w W := by rw [← hW]; exact ((Keeps.refl _ _).alloc _).alloc _
  have bs : Blk W w.heap.size 9 #[.string s] := by rw [← hW]; exact (Blk.new _ _ _).alloc _
  have be : Blk W (w.heap.size + 1) 3 #[.int .i64 y] := by rw [← hW]; simpa using Blk.new (w.alloc (.cells #[.string s] 9)) 3 #[.int .i64 y]
  have cs : W.cell? ⟨w.heap.size, 0, none⟩ = some (.string s) := bs.cell 0
  have ce : W.cell? ⟨w.heap.size + 1, 0, none⟩ = some (.int .i64 y) := be.cell 0
  have HW := Lib.hid hW
  have HK := Lib.hid kW
  have BS := Lib.hid bs
  have BE := Lib.hid be
  clear hW kW bs be
  go_enter Try.func4, Try.ntmps4
  go_wp2_with fail
  rw [HW.out]
  go_wp2
  go_loopw [7, 8] (fun F i wr => ∃ k : Nat, (k : Int) ≤ d ∧ i = .int .i64 k ∧ Chain s y k F wr ∧ Keeps NoS W wr) (fun _ i _ => d.toNat - (intOf i).toNat)
  case atStart => exact ⟨0, by omega, rfl, ⟨_, _, rfl, BE.out, BS.out⟩, Keeps.refl _ _⟩
  case round =>
    obtain ⟨k, hk, rfl, hch, hkr⟩ := hrel
    have cs' : wr.cell? ⟨w.heap.size, 0, none⟩ = some (.string s) := (BS.out.keep hkr (fun h => h)).cell 0
    have HR := Lib.hid hkr
    clear hkr
    by_cases hlt : (k : Int) < d
    · obtain ⟨K, cap, rfl, _, _⟩ := chain_panics s y k u7 wr hch
      have HC := Lib.hid hch
      clear hch
      go_wp2
      go_roundw
      case rel => exact ⟨k + 1, by omega, by go_num, ⟨_, _, rfl, Blk.new _ _ _, HC.out.keep ((Keeps.refl _ _).alloc _)⟩, HR.out.alloc _⟩
      case measure => simp [intOf]; omega
    · have hch' := hch.keep (((Keeps.refl NoS wr).alloc (.cells #[.string ⟨#[]⟩] 9)).alloc (.cells #[.bool false] 4))
      obtain ⟨K, cap, rfl, hK, hcalls⟩ := chain_panics s y k u7 _ hch'
      have hcc := caught_any s (olds s k) (olds_plain s k) K cap hK wr hcalls
      have HC := Lib.hid hcc
      clear hch hch' hK hcalls hcc
      have hbb := bytes_beq s
      go_wp2_with fail
      refine HC.out.mono ?_
      rintro e w3 ⟨rfl, k3⟩
      have cs3 : w3.cell? ⟨w.heap.size, 0, none⟩ = some (.string s) := ((BS.out.keep HR.out (fun h => h)).keep k3 (fun h => h)).cell 0
      have K3 := Lib.hid k3
      clear k3
      go_wp2_with (go_at_call 11; refine (awake_any _).mono ?_; rintro e w5 ⟨rfl, b5⟩)
      go_ret
      exact ⟨rfl, (((HK.out.trans HR.out).trans K3.out).below (by intro k hk h; exact h) (Nat.le_refl _)).trans (b5.mono (Nat.le_trans HK.out.size (Nat.le_trans HR.out.size K3.out.size)))⟩

theorem trapOthers_walk (d : Int) (s : ByteArray) (y : Int) (w : World) (hd : (Lit.int .u8 d).wf = true) (hs : s.size ≤ maxLen) (_hy : (Lit.int .i64 y).wf = true) :
    Calls Try.prog 4 #[.int .u8 d, .string s, .int .i64 y] w fun e w' => e = .returned (.bool true) ∧ Below w.heap.size w w' := by
  have hb := bounds_u8 hd
  unfold maxLen at hs
  by_cases hbig : d ≤ 20 ∧ s.size ≤ 100
  · exact others_walk20 d s y w hb.1 hbig.1 hbig.2
  · have h0 := hb.1
    have h1 := hb.2
    clear hb hd _hy
    by_cases hd20 : d ≤ 20
    · have h100 : ¬ s.size ≤ 100 := fun h => hbig ⟨hd20, h⟩
      clear hbig
      go_enter Try.func4, Try.ntmps4
      go_wp2
      go_ret
      exact ⟨rfl, by go_grown⟩
    · clear hbig
      go_enter Try.func4, Try.ntmps4
      go_wp2
      go_ret
      exact ⟨rfl, by go_grown⟩
end Go.Proofs.Ytlgnepkapcjfnaa.Oth
namespace Go.Proofs.Ytlgnepkapcjfnaa
theorem trapOthers_walk (d : Int) (s : ByteArray) (y : Int) (w : Go.World) (hd : (Go.Lit.int .u8 d).wf = true) (hs : s.size ≤ Go.maxLen) (hy : (Go.Lit.int .i64 y).wf = true) :
    Go.Calls Try.prog 4 #[.int .u8 d, .string s, .int .i64 y] w fun e w' => e = .returned (.bool true) ∧ Go.RowKit.Below w.heap.size w w' := Oth.trapOthers_walk d s y w hd hs hy
end Go.Proofs.Ytlgnepkapcjfnaa
