/-
  The contract of xor.Decode. Condition: at most 100000 bytes.
-/
import Derived.Test.YthcoiaigmndohaaDoorXorDec1
namespace Go.Proofs.YthcoiaigmndohaaDoor
open Go.RowKit BitM

theorem decM_err {N T : Nat} {n : Int} (h : (decM N T n).1 ≠ 0) : (decM N T n).2 = [] := by
  unfold decM at *
  split at h <;> rename_i h1
  · rw [if_pos h1]
  · rw [if_neg h1]
    split at h <;> rename_i h2
    · rw [if_pos h2]
    · rw [if_neg h2]
      generalize decGo N T (n.toNat - 1) 64 ⟨0, 0, false⟩ (N / 2 ^ 0 % 2 ^ 64) [N / 2 ^ 0 % 2 ^ 64] = r at *
      cases r with
      | error e => rfl
      | ok q =>
        obtain ⟨z, l⟩ := q
        unfold decEnd at *
        simp only [] at *
        split at h <;> rename_i h3
        · rw [if_pos h3]
        · rw [if_neg h3]
          split at h <;> rename_i h4
          · exact absurd rfl h
          · rw [if_neg h4]

/-- What Decode answers. -/
def DecPost (w : World) (r : Nat × List Nat) (e : Ending) (w' : World) : Prop :=
  Keeps (fun _ => False) w w' ∧ ∃ u, e = .returned (.tuple #[u, .int .i64 r.1]) ∧ w'.ownsRow w.heap.size 53 1 u r.2.length (fls r.2)

theorem enter_dec1 (cap : Array Value) (w : World) : (callFunc 20 cap).run Tryd.prog w = .ok (.enter 20 cap) w := by kernel_rfl
theorem enter_get1 (cap : Array Value) (w : World) : (callFunc 37 cap).run Tryd.prog w = .ok (.enter 37 cap) w := by kernel_rfl

theorem own_slice' {w : World} {B n : Nat} {e : TypeId} {v : Value} {xs : List Value} (h : w.ownsRow B e 1 v n xs) : ∃ A c, v = .slice A n c := by
  rcases h.2 with ⟨rfl, hx⟩ | ⟨g, cap, cur, rfl, _⟩
  · have := h.1
    subst hx
    simp at this
    subst this
    exact ⟨none, 0, rfl⟩
  · exact ⟨_, _, rfl⟩

theorem getf_ok (cap : Array Value) (bd bo : Nat) (l : List Nat) (w : World) (hd : Blk w bd 59 #[.func (.func 20) #[] cap]) (ho : Blk w bo 23 #[.slice none 0 0])
    (h : Calls Tryd.prog 20 cap w fun e w' => Keeps (fun _ => False) w w' ∧ ∃ v, e = .returned v ∧ w'.ownsRow w.heap.size 53 1 v l.length (fls l)) :
    Calls Tryd.prog 37 #[.pointer (some ⟨bd, 0, none⟩), .pointer (some ⟨bo, 0, none⟩)] w fun e w' => e = .returned (.tuple #[]) ∧ ∃ v w2, Keeps (fun _ => False) w w2 ∧ w2.ownsRow w.heap.size 53 1 v l.length (fls l) ∧ w' = w2.setCell ⟨bo, 0, none⟩ v := by
  have cd : w.cell? ⟨bd, 0, none⟩ = some (.func (.func 20) #[] cap) := hd.cell 0
  have hK := enter_dec1 cap
  have H := Lib.hid h
  have HO := Lib.hid ho
  clear hd h ho
  go_enter Tryd.func37, Tryd.ntmps37
  go_wp2_with fail
  refine H.out.mono ?_
  rintro e w2 ⟨hk, v, rfl, hown⟩
  obtain ⟨A, c, rfl⟩ := own_slice' hown
  have hb := HO.out.keep hk (fun h => h)
  have co : w2.cell? ⟨bo, 0, none⟩ = some (.slice none 0 0) := hb.cell 0
  have fo := hb.frozen 0
  have HK := Lib.hid hk
  have HW := Lib.hid hown
  clear hb hk hown
  go_wp2_with fail
  go_end0
  exact ⟨rfl, _, _, HK.out, HW.out, rfl⟩

theorem getf_no (cap : Array Value) (bd bo : Nat) (v : Value) (w : World) (hd : Blk w bd 59 #[.func (.func 20) #[] cap])
    (h : Calls Tryd.prog 20 cap w fun e w' => Keeps (fun _ => False) w w' ∧ e = .panicked [{ v := v, recovered := false }]) :
    Calls Tryd.prog 37 #[.pointer (some ⟨bd, 0, none⟩), .pointer (some ⟨bo, 0, none⟩)] w fun e w' => e = .panicked [{ v := v, recovered := false }] ∧ Keeps (fun _ => False) w w' := by
  have cd : w.cell? ⟨bd, 0, none⟩ = some (.func (.func 20) #[] cap) := hd.cell 0
  have hK := enter_dec1 cap
  have H := Lib.hid h
  clear hd h
  go_enter Tryd.func37, Tryd.ntmps37
  go_wp2_with fail
  refine H.out.mono ?_
  rintro e w2 ⟨hk, rfl⟩
  have HK := Lib.hid hk
  clear hk
  go_wp2_with fail
  exact ⟨rfl, rfl, HK.out⟩

theorem keeps_fresh {w w1 w2 : World} {S : Nat → Prop} (h : Keeps (fun _ => False) w w1) (k : Keeps S w1 w2) (hS : ∀ i, i < w.heap.size → ¬ S i) : Keeps (fun _ => False) w w2 :=
  h.trans' k (fun i hi hs => hS i hi hs)

theorem dget_any (cap : Array Value) (r : Nat × List Nat) (w : World) (hre : r.1 ≠ 0 → r.2 = [])
    (h : ∀ w', Keeps (fun _ => False) w w' → Calls Tryd.prog 20 cap w' (Dec1Post w' r)) :
    Calls Tryd.prog 19 #[.func (.func 20) #[] cap] w (DecPost w r) := by
  obtain ⟨W, hW⟩ : ∃ W, (w.alloc (.cells #[.func (.func 20) #[] cap] 59)).alloc (.cells #[.slice none 0 0] 23) = W := ⟨_, rfl⟩
  have kW : Keeps (fun _ => False) w W := by rw [← hW]; exact ((Keeps.refl _ _).alloc _).alloc _
  have hd : Blk W w.heap.size 59 #[.func (.func 20) #[] cap] := by rw [← hW]; exact (Blk.new _ _ _).alloc _
  have ho : Blk W (w.heap.size + 1) 23 #[.slice none 0 0] := by rw [← hW]; simpa using Blk.new (w.alloc (.cells #[.func (.func 20) #[] cap] 59)) 23 #[.slice none 0 0]
  have hlt : w.heap.size + 1 < W.heap.size := ho.lt
  have kV : Keeps (fun _ => False) W (W.alloc (.cells #[.int .i64 0] 24)) := (Keeps.refl _ _).alloc _
  have hV := Blk.new W 24 #[.int .i64 0]
  have hc := h _ (kW.trans kV)
  obtain ⟨k, l⟩ := r
  by_cases hk : k = 0
  · subst hk
    have hin := getf_ok cap w.heap.size (w.heap.size + 1) l (W.alloc (.cells #[.int .i64 0] 24)) (hd.alloc _) (ho.alloc _) (hc.mono fun e w' ⟨hk, hp⟩ => by
      rcases hp with ⟨_, v, he, hown⟩ | ⟨h0, _⟩
      · exact ⟨hk, v, he, hown⟩
      · exact absurd rfl h0)
    have hT : Calls Tryd.prog 36 #[.func (.func 37) #[] #[.pointer (some ⟨w.heap.size, 0, none⟩), .pointer (some ⟨w.heap.size + 1, 0, none⟩)]] W fun e w' => e = .returned (.int .i64 0) ∧ Keeps (· = w.heap.size + 1) W w' ∧ ∃ v, Blk w' (w.heap.size + 1) 23 #[v] ∧ w'.ownsRow w.heap.size 53 1 v l.length (fls l) := by
      refine (try_returns _ _ (enter_get1 _) W _ hin ?_).mono ?_
      · rintro w' ⟨v, w2, hk2, _, rfl⟩
        have hb := (hV.keep hk2 (fun h => h)).far (p := ⟨w.heap.size + 1, 0, none⟩) (by simpa using (by omega)) v
        exact ⟨⟨0, hb.cell 0⟩, hb.frozen 0⟩
      · rintro e w' ⟨rfl, w3, ⟨v, w2, hk2, hown, rfl⟩, rfl⟩
        have hob := (ho.alloc (.cells #[.int .i64 0] 24)).keep hk2 (fun h => h)
        have hvb := hV.keep hk2 (fun h => h)
        refine ⟨rfl, ?_, v, ?_, ?_⟩
        · exact ((keeps_none (kV.trans hk2)).setCell (.inl (by rfl)) _).setCell (.inr (Nat.le_refl _)) _
        · have := (hob.set_ 0 v).far (p := ⟨W.heap.size, 0, none⟩) (by simpa using (by omega)) (.int .i64 0)
          simpa using this
        · have hf1 := own_keep hown ((Keeps.refl (fun k => k = w.heap.size + 1) w2).setCell (p := ⟨w.heap.size + 1, 0, none⟩) (.inl rfl) v) (fun k hk1 hk2 => by
            subst hk2
            exact (hob.own_ne hown (by decide)) hk1)
          have hf2 := own_keep hf1 ((Keeps.refl (fun k => k = W.heap.size) _).setCell (p := ⟨W.heap.size, 0, none⟩) (.inl rfl) (.int .i64 0)) (fun k hk1 hk2 => by
            subst hk2
            exact (hvb.own_ne hown (by decide)) hk1)
          exact own_mono' hf2 (Nat.le_trans kW.size kV.size)
    have HT := Lib.hid hT
    have HK := Lib.hid kW
    have HW := Lib.hid hW
    clear hT hin hc hd ho kW kV hV hW hlt h hre
    go_enter Tryd.func19, Tryd.ntmps19
    go_wp2_with fail
    rw [HW.out]
    refine HT.out.mono ?_
    rintro e w3 ⟨rfl, k3, v, b3, hown⟩
    obtain ⟨A, c, rfl⟩ := own_slice' hown
    have c3 : w3.cell? ⟨w.heap.size + 1, 0, none⟩ = some (.slice A l.length c) := b3.cell 0
    have K3 := Lib.hid k3
    have HO := Lib.hid hown
    clear k3 b3 hown
    go_wp2
    go_ret2
    exact ⟨HK.out.trans' K3.out (by intro i hi e; omega), _, rfl, HO.out⟩
  · obtain rfl : l = [] := hre hk
    have hki : ((k : Int) != 0) = true := by simp; omega
    have hin := getf_no cap w.heap.size (w.heap.size + 1) (thrownV k) (W.alloc (.cells #[.int .i64 0] 24)) (hd.alloc _) (hc.mono fun e w' ⟨hk', hp⟩ => by
      rcases hp with ⟨h0, _⟩ | ⟨_, he⟩
      · exact absurd h0 hk
      · exact ⟨hk', he⟩)
    have hT : Calls Tryd.prog 36 #[.func (.func 37) #[] #[.pointer (some ⟨w.heap.size, 0, none⟩), .pointer (some ⟨w.heap.size + 1, 0, none⟩)]] W fun e w' => e = .returned (.int .i64 k) ∧ Keeps (fun _ => False) W w' := by
      refine (try_throws k [] rfl _ _ (enter_get1 _) W _ hin ?_).mono ?_
      · rintro w' hk2
        have hb := hV.keep hk2 (fun h => h)
        exact ⟨⟨0, hb.cell 0⟩, hb.frozen 0⟩
      · rintro e w' ⟨rfl, w2, hk2, rfl⟩
        exact ⟨rfl, ((kV.trans hk2).alloc _).setCell (.inr (Nat.le_refl _)) _⟩
    have HT := Lib.hid hT
    have HK := Lib.hid kW
    have HW := Lib.hid hW
    clear hT hin hc hd ho kW kV hV hW hlt h hre hk
    go_enter Tryd.func19, Tryd.ntmps19
    go_wp2_with fail
    rw [HW.out]
    refine HT.out.mono ?_
    rintro e w3 ⟨rfl, k3⟩
    have K3 := Lib.hid k3
    clear k3
    go_wp2
    go_ret2
    exact ⟨HK.out.trans K3.out, _, rfl, World.ownsRow_nil _ _ _ _⟩

theorem block_int (n : Int) (w : World) : Calls Tryd.prog 18 #[.int .i64 n] w fun e w' => e = .returned (.bool (blockZ n)) ∧ w = w' := by
  unfold blockZ
  by_cases h : 1 ≤ n
  · go_enter Tryd.func18, Tryd.ntmps18
    go_wp2
    go_ret
    refine ⟨congrArg (fun b => Ending.returned (.bool b)) ?_, rfl⟩
    rw [decide_eq_true h]
    try rw [Bool.eq_iff_iff]
    try simp
  · have hi : ¬ (1 : Int) ≤ n := h
    go_enter Tryd.func18, Tryd.ntmps18
    go_wp2
    go_ret
    refine ⟨congrArg (fun b => Ending.returned (.bool b)) ?_, rfl⟩
    rw [decide_eq_false (show ¬ 1 ≤ n by omega)]
    first | rfl | simp

theorem decode_any (A : Option Addr) (c : Nat) (L : List Int) (n : Int) (w : World) (hI : In w A c L) (hL : ∀ z ∈ L, 0 ≤ z ∧ z < 256) :
    Calls Tryd.prog 8 #[.slice A L.length c, .int .i64 n] w (DecPost w (decM (ofBytes L) (8 * L.length) n)) := by
  by_cases hn : 1 ≤ n ∧ n ≤ 1024
  · obtain ⟨m, rfl⟩ : ∃ m : Nat, n = (m : Int) := ⟨n.toNat, by omega⟩
    have hbz : blockZ (m : Int) = true := by unfold blockZ; simp; omega
    have hk0 : Keeps (fun _ => False) w ((w.alloc (.cells #[.slice A L.length c] 22)).alloc (.cells #[.int .i64 m] 3)) := ((Keeps.refl _ _).alloc _).alloc _
    have hb : Blk ((w.alloc (.cells #[.slice A L.length c] 22)).alloc (.cells #[.int .i64 m] 3)) w.heap.size 22 #[.slice A L.length c] := (Blk.new _ _ _).alloc _
    have hn2 : Blk ((w.alloc (.cells #[.slice A L.length c] 22)).alloc (.cells #[.int .i64 m] 3)) (w.heap.size + 1) 3 #[.int .i64 m] := by simpa using Blk.new (w.alloc (.cells #[.slice A L.length c] 22)) 3 #[.int .i64 m]
    obtain ⟨r, hr⟩ : ∃ r, decM (ofBytes L) (8 * L.length) m = r := ⟨_, rfl⟩
    have hre : r.1 ≠ 0 → r.2 = [] := fun h => by rw [← hr] at h ⊢; exact decM_err h
    have hG := dget_any #[.pointer (some ⟨w.heap.size, 0, none⟩), .pointer (some ⟨w.heap.size + 1, 0, none⟩)] r _ hre (fun w' hk => by
      have := dec1_any w.heap.size (w.heap.size + 1) A c L m (by omega) (by omega) w' (hI.keep ((hk0.trans hk).below (fun _ _ h => h) (Nat.le_refl _))) hL (hb.keep hk (fun h => h)) (hn2.keep hk (fun h => h))
      rw [hr] at this
      exact this)
    have HG := Lib.hid hG
    have HBZ := Lib.hid hbz
    have HK0 := Lib.hid hk0
    rw [hr]
    clear hG hbz hk0 hb hn2 hn hre hr hI hL
    go_enter Tryd.func8, Tryd.ntmps8
    go_wp2_with fail
    refine (block_int _ _).mono ?_
    rw [HBZ.out]
    rintro e w' ⟨rfl, rfl⟩
    go_wp2_with fail
    refine HG.out.mono ?_
    rintro e w1 ⟨hk, u, rfl, hown⟩
    have HO := Lib.hid hown
    clear hown
    go_wp2
    go_ret2
    exact ⟨HK0.out.trans hk, _, rfl, own_mono' HO.out HK0.out.size⟩
  · have hbz : blockZ n = false := by
      unfold blockZ
      rw [Bool.and_eq_false_iff]
      simp only [decide_eq_false_iff_not]
      omega
    have hr : decM (ofBytes L) (8 * L.length) n = (7, []) := by unfold decM; rw [if_pos hn]
    rw [hr]
    have HBZ := Lib.hid hbz
    have hk0 : Keeps (fun _ => False) w ((w.alloc (.cells #[.slice A L.length c] 22)).alloc (.cells #[.int .i64 n] 3)) := ((Keeps.refl _ _).alloc _).alloc _
    have HK0 := Lib.hid hk0
    clear hbz hr hn hk0 hI hL
    go_enter Tryd.func8, Tryd.ntmps8
    go_wp2_with fail
    refine (block_int _ _).mono ?_
    rw [HBZ.out]
    rintro e w' ⟨rfl, rfl⟩
    go_wp2
    go_ret2
    exact ⟨HK0.out, _, rfl, World.ownsRow_nil _ _ _ _⟩
end Go.Proofs.YthcoiaigmndohaaDoor
