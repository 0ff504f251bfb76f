import Derived.Test.YtbblenohgednjaaX19
import Derived.KernelRfl
/- What the plain functions of this program answer, as Lean functions: definitions, printed by program; what must hold at each is named nd. -/
set_option maxRecDepth 100000
set_option linter.all false
set_option maxHeartbeats 4000000
namespace Go.X.M
open Go Go.X
def m_sallyportref1_Zext_0 (p0 : BitVec 64) (p1 : Int) : BitVec (64 : Nat) := if
    (BitVec.ofInt (64 : Nat)
          (if (1 : Int) < if (64 : Int) < p1 then (64 : Int) else p1 then if (64 : Int) < p1 then (64 : Int) else p1
          else (1 : Int)) ==
        BitVec.ofNat (64 : Nat) (64 : Nat)) =
      true then
  p0
else
  p0 &&&
    BitVec.ofNat (64 : Nat) (1 : Nat) <<<
        min
          (BitVec.ofInt (64 : Nat)
              (if (1 : Int) < if (64 : Int) < p1 then (64 : Int) else p1 then if (64 : Int) < p1 then (64 : Int) else p1
              else (1 : Int))).toNat
          (64 : Nat) -
      BitVec.ofNat (64 : Nat) (1 : Nat)
def nd_sallyportref1_Zext (p0 : BitVec 64) (p1 : Int) : Nd := Nd.yes
def m_insn_Class_0 (p0 : Int) : Int := if (bif decide (p0 < (1 : Int)) then true else decide ((70 : Int) ≤ p0)) = true then (0 : Int)
else
  if decide (p0 ≤ (4 : Int)) = true then (1 : Int)
  else
    if decide (p0 ≤ (10 : Int)) = true then (2 : Int)
    else
      if decide (p0 ≤ (17 : Int)) = true then (3 : Int)
      else
        if decide (p0 ≤ (21 : Int)) = true then (4 : Int)
        else
          if decide (p0 ≤ (34 : Int)) = true then (5 : Int)
          else
            if decide (p0 ≤ (49 : Int)) = true then (6 : Int)
            else
              if decide (p0 ≤ (51 : Int)) = true then (7 : Int)
              else
                if decide (p0 ≤ (53 : Int)) = true then (8 : Int)
                else
                  if decide (p0 ≤ (59 : Int)) = true then (9 : Int)
                  else
                    if decide (p0 ≤ (62 : Int)) = true then (10 : Int)
                    else
                      if decide (p0 ≤ (65 : Int)) = true then (11 : Int)
                      else if decide (p0 ≤ (69 : Int)) = true then (12 : Int) else (0 : Int)
def nd_insn_Class (p0 : Int) : Nd := (Nd.prop ((!decide (p0 < (1 : Int))) = true → (!decide (p0 < (1 : Int))) = true)).and
  (Nd.prop (decide (p0 < (1 : Int)) = false → (!decide (p0 < (1 : Int))) = true))
def m_insn_Size_0 (p0 : Int) : Int := if decide (p0 = (11 : Int)) = true then
  if decide (p0 = (11 : Int)) = true then (1 : Int)
  else
    if decide (p0 = (12 : Int)) = true then
      if decide (p0 = (12 : Int)) = true then (2 : Int)
      else
        if decide (p0 = (13 : Int)) = true then
          if decide (p0 = (13 : Int)) = true then (4 : Int)
          else
            if decide (p0 = (14 : Int)) = true then if decide (p0 = (14 : Int)) = true then (8 : Int) else (0 : Int)
            else
              if decide (p0 = (21 : Int)) = true then if decide (p0 = (21 : Int)) = true then (8 : Int) else (0 : Int)
              else
                if decide (p0 = (67 : Int)) = true then if decide (p0 = (67 : Int)) = true then (8 : Int) else (0 : Int)
                else if decide (p0 = (69 : Int)) = true then (8 : Int) else (0 : Int)
        else
          if decide (p0 = (17 : Int)) = true then
            if decide (p0 = (17 : Int)) = true then (4 : Int)
            else
              if decide (p0 = (14 : Int)) = true then if decide (p0 = (14 : Int)) = true then (8 : Int) else (0 : Int)
              else
                if decide (p0 = (21 : Int)) = true then if decide (p0 = (21 : Int)) = true then (8 : Int) else (0 : Int)
                else
                  if decide (p0 = (67 : Int)) = true then
                    if decide (p0 = (67 : Int)) = true then (8 : Int) else (0 : Int)
                  else if decide (p0 = (69 : Int)) = true then (8 : Int) else (0 : Int)
          else
            if decide (p0 = (20 : Int)) = true then
              if decide (p0 = (20 : Int)) = true then (4 : Int)
              else
                if decide (p0 = (14 : Int)) = true then if decide (p0 = (14 : Int)) = true then (8 : Int) else (0 : Int)
                else
                  if decide (p0 = (21 : Int)) = true then
                    if decide (p0 = (21 : Int)) = true then (8 : Int) else (0 : Int)
                  else
                    if decide (p0 = (67 : Int)) = true then
                      if decide (p0 = (67 : Int)) = true then (8 : Int) else (0 : Int)
                    else if decide (p0 = (69 : Int)) = true then (8 : Int) else (0 : Int)
            else
              if decide (p0 = (66 : Int)) = true then
                if decide (p0 = (66 : Int)) = true then (4 : Int)
                else
                  if decide (p0 = (14 : Int)) = true then
                    if decide (p0 = (14 : Int)) = true then (8 : Int) else (0 : Int)
                  else
                    if decide (p0 = (21 : Int)) = true then
                      if decide (p0 = (21 : Int)) = true then (8 : Int) else (0 : Int)
                    else
                      if decide (p0 = (67 : Int)) = true then
                        if decide (p0 = (67 : Int)) = true then (8 : Int) else (0 : Int)
                      else if decide (p0 = (69 : Int)) = true then (8 : Int) else (0 : Int)
              else
                if decide (p0 = (68 : Int)) = true then (4 : Int)
                else
                  if decide (p0 = (14 : Int)) = true then
                    if decide (p0 = (14 : Int)) = true then (8 : Int) else (0 : Int)
                  else
                    if decide (p0 = (21 : Int)) = true then
                      if decide (p0 = (21 : Int)) = true then (8 : Int) else (0 : Int)
                    else
                      if decide (p0 = (67 : Int)) = true then
                        if decide (p0 = (67 : Int)) = true then (8 : Int) else (0 : Int)
                      else if decide (p0 = (69 : Int)) = true then (8 : Int) else (0 : Int)
    else
      if decide (p0 = (16 : Int)) = true then
        if decide (p0 = (16 : Int)) = true then (2 : Int)
        else
          if decide (p0 = (13 : Int)) = true then
            if decide (p0 = (13 : Int)) = true then (4 : Int)
            else
              if decide (p0 = (14 : Int)) = true then if decide (p0 = (14 : Int)) = true then (8 : Int) else (0 : Int)
              else
                if decide (p0 = (21 : Int)) = true then if decide (p0 = (21 : Int)) = true then (8 : Int) else (0 : Int)
                else
                  if decide (p0 = (67 : Int)) = true then
                    if decide (p0 = (67 : Int)) = true then (8 : Int) else (0 : Int)
                  else if decide (p0 = (69 : Int)) = true then (8 : Int) else (0 : Int)
          else
            if decide (p0 = (17 : Int)) = true then
              if decide (p0 = (17 : Int)) = true then (4 : Int)
              else
                if decide (p0 = (14 : Int)) = true then if decide (p0 = (14 : Int)) = true then (8 : Int) else (0 : Int)
                else
                  if decide (p0 = (21 : Int)) = true then
                    if decide (p0 = (21 : Int)) = true then (8 : Int) else (0 : Int)
                  else
                    if decide (p0 = (67 : Int)) = true then
                      if decide (p0 = (67 : Int)) = true then (8 : Int) else (0 : Int)
                    else if decide (p0 = (69 : Int)) = true then (8 : Int) else (0 : Int)
            else
              if decide (p0 = (20 : Int)) = true then
                if decide (p0 = (20 : Int)) = true then (4 : Int)
                else
                  if decide (p0 = (14 : Int)) = true then
                    if decide (p0 = (14 : Int)) = true then (8 : Int) else (0 : Int)
                  else
                    if decide (p0 = (21 : Int)) = true then
                      if decide (p0 = (21 : Int)) = true then (8 : Int) else (0 : Int)
                    else
                      if decide (p0 = (67 : Int)) = true then
                        if decide (p0 = (67 : Int)) = true then (8 : Int) else (0 : Int)
                      else if decide (p0 = (69 : Int)) = true then (8 : Int) else (0 : Int)
              else
                if decide (p0 = (66 : Int)) = true then
                  if decide (p0 = (66 : Int)) = true then (4 : Int)
                  else
                    if decide (p0 = (14 : Int)) = true then
                      if decide (p0 = (14 : Int)) = true then (8 : Int) else (0 : Int)
                    else
                      if decide (p0 = (21 : Int)) = true then
                        if decide (p0 = (21 : Int)) = true then (8 : Int) else (0 : Int)
                      else
                        if decide (p0 = (67 : Int)) = true then
                          if decide (p0 = (67 : Int)) = true then (8 : Int) else (0 : Int)
                        else if decide (p0 = (69 : Int)) = true then (8 : Int) else (0 : Int)
                else
                  if decide (p0 = (68 : Int)) = true then (4 : Int)
                  else
                    if decide (p0 = (14 : Int)) = true then
                      if decide (p0 = (14 : Int)) = true then (8 : Int) else (0 : Int)
                    else
                      if decide (p0 = (21 : Int)) = true then
                        if decide (p0 = (21 : Int)) = true then (8 : Int) else (0 : Int)
                      else
                        if decide (p0 = (67 : Int)) = true then
                          if decide (p0 = (67 : Int)) = true then (8 : Int) else (0 : Int)
                        else if decide (p0 = (69 : Int)) = true then (8 : Int) else (0 : Int)
      else
        if decide (p0 = (19 : Int)) = true then (2 : Int)
        else
          if decide (p0 = (13 : Int)) = true then
            if decide (p0 = (13 : Int)) = true then (4 : Int)
            else
              if decide (p0 = (14 : Int)) = true then if decide (p0 = (14 : Int)) = true then (8 : Int) else (0 : Int)
              else
                if decide (p0 = (21 : Int)) = true then if decide (p0 = (21 : Int)) = true then (8 : Int) else (0 : Int)
                else
                  if decide (p0 = (67 : Int)) = true then
                    if decide (p0 = (67 : Int)) = true then (8 : Int) else (0 : Int)
                  else if decide (p0 = (69 : Int)) = true then (8 : Int) else (0 : Int)
          else
            if decide (p0 = (17 : Int)) = true then
              if decide (p0 = (17 : Int)) = true then (4 : Int)
              else
                if decide (p0 = (14 : Int)) = true then if decide (p0 = (14 : Int)) = true then (8 : Int) else (0 : Int)
                else
                  if decide (p0 = (21 : Int)) = true then
                    if decide (p0 = (21 : Int)) = true then (8 : Int) else (0 : Int)
                  else
                    if decide (p0 = (67 : Int)) = true then
                      if decide (p0 = (67 : Int)) = true then (8 : Int) else (0 : Int)
                    else if decide (p0 = (69 : Int)) = true then (8 : Int) else (0 : Int)
            else
              if decide (p0 = (20 : Int)) = true then
                if decide (p0 = (20 : Int)) = true then (4 : Int)
                else
                  if decide (p0 = (14 : Int)) = true then
                    if decide (p0 = (14 : Int)) = true then (8 : Int) else (0 : Int)
                  else
                    if decide (p0 = (21 : Int)) = true then
                      if decide (p0 = (21 : Int)) = true then (8 : Int) else (0 : Int)
                    else
                      if decide (p0 = (67 : Int)) = true then
                        if decide (p0 = (67 : Int)) = true then (8 : Int) else (0 : Int)
                      else if decide (p0 = (69 : Int)) = true then (8 : Int) else (0 : Int)
              else
                if decide (p0 = (66 : Int)) = true then
                  if decide (p0 = (66 : Int)) = true then (4 : Int)
                  else
                    if decide (p0 = (14 : Int)) = true then
                      if decide (p0 = (14 : Int)) = true then (8 : Int) else (0 : Int)
                    else
                      if decide (p0 = (21 : Int)) = true then
                        if decide (p0 = (21 : Int)) = true then (8 : Int) else (0 : Int)
                      else
                        if decide (p0 = (67 : Int)) = true then
                          if decide (p0 = (67 : Int)) = true then (8 : Int) else (0 : Int)
                        else if decide (p0 = (69 : Int)) = true then (8 : Int) else (0 : Int)
                else
                  if decide (p0 = (68 : Int)) = true then (4 : Int)
                  else
                    if decide (p0 = (14 : Int)) = true then
                      if decide (p0 = (14 : Int)) = true then (8 : Int) else (0 : Int)
                    else
                      if decide (p0 = (21 : Int)) = true then
                        if decide (p0 = (21 : Int)) = true then (8 : Int) else (0 : Int)
                      else
                        if decide (p0 = (67 : Int)) = true then
                          if decide (p0 = (67 : Int)) = true then (8 : Int) else (0 : Int)
                        else if decide (p0 = (69 : Int)) = true then (8 : Int) else (0 : Int)
else
  if decide (p0 = (15 : Int)) = true then
    if decide (p0 = (15 : Int)) = true then (1 : Int)
    else
      if decide (p0 = (12 : Int)) = true then
        if decide (p0 = (12 : Int)) = true then (2 : Int)
        else
          if decide (p0 = (13 : Int)) = true then
            if decide (p0 = (13 : Int)) = true then (4 : Int)
            else
              if decide (p0 = (14 : Int)) = true then if decide (p0 = (14 : Int)) = true then (8 : Int) else (0 : Int)
              else
                if decide (p0 = (21 : Int)) = true then if decide (p0 = (21 : Int)) = true then (8 : Int) else (0 : Int)
                else
                  if decide (p0 = (67 : Int)) = true then
                    if decide (p0 = (67 : Int)) = true then (8 : Int) else (0 : Int)
                  else if decide (p0 = (69 : Int)) = true then (8 : Int) else (0 : Int)
          else
            if decide (p0 = (17 : Int)) = true then
              if decide (p0 = (17 : Int)) = true then (4 : Int)
              else
                if decide (p0 = (14 : Int)) = true then if decide (p0 = (14 : Int)) = true then (8 : Int) else (0 : Int)
                else
                  if decide (p0 = (21 : Int)) = true then
                    if decide (p0 = (21 : Int)) = true then (8 : Int) else (0 : Int)
                  else
                    if decide (p0 = (67 : Int)) = true then
                      if decide (p0 = (67 : Int)) = true then (8 : Int) else (0 : Int)
                    else if decide (p0 = (69 : Int)) = true then (8 : Int) else (0 : Int)
            else
              if decide (p0 = (20 : Int)) = true then
                if decide (p0 = (20 : Int)) = true then (4 : Int)
                else
                  if decide (p0 = (14 : Int)) = true then
                    if decide (p0 = (14 : Int)) = true then (8 : Int) else (0 : Int)
                  else
                    if decide (p0 = (21 : Int)) = true then
                      if decide (p0 = (21 : Int)) = true then (8 : Int) else (0 : Int)
                    else
                      if decide (p0 = (67 : Int)) = true then
                        if decide (p0 = (67 : Int)) = true then (8 : Int) else (0 : Int)
                      else if decide (p0 = (69 : Int)) = true then (8 : Int) else (0 : Int)
              else
                if decide (p0 = (66 : Int)) = true then
                  if decide (p0 = (66 : Int)) = true then (4 : Int)
                  else
                    if decide (p0 = (14 : Int)) = true then
                      if decide (p0 = (14 : Int)) = true then (8 : Int) else (0 : Int)
                    else
                      if decide (p0 = (21 : Int)) = true then
                        if decide (p0 = (21 : Int)) = true then (8 : Int) else (0 : Int)
                      else
                        if decide (p0 = (67 : Int)) = true then
                          if decide (p0 = (67 : Int)) = true then (8 : Int) else (0 : Int)
                        else if decide (p0 = (69 : Int)) = true then (8 : Int) else (0 : Int)
                else
                  if decide (p0 = (68 : Int)) = true then (4 : Int)
                  else
                    if decide (p0 = (14 : Int)) = true then
                      if decide (p0 = (14 : Int)) = true then (8 : Int) else (0 : Int)
                    else
                      if decide (p0 = (21 : Int)) = true then
                        if decide (p0 = (21 : Int)) = true then (8 : Int) else (0 : Int)
                      else
                        if decide (p0 = (67 : Int)) = true then
                          if decide (p0 = (67 : Int)) = true then (8 : Int) else (0 : Int)
                        else if decide (p0 = (69 : Int)) = true then (8 : Int) else (0 : Int)
      else
        if decide (p0 = (16 : Int)) = true then
          if decide (p0 = (16 : Int)) = true then (2 : Int)
          else
            if decide (p0 = (13 : Int)) = true then
              if decide (p0 = (13 : Int)) = true then (4 : Int)
              else
                if decide (p0 = (14 : Int)) = true then if decide (p0 = (14 : Int)) = true then (8 : Int) else (0 : Int)
                else
                  if decide (p0 = (21 : Int)) = true then
                    if decide (p0 = (21 : Int)) = true then (8 : Int) else (0 : Int)
                  else
                    if decide (p0 = (67 : Int)) = true then
                      if decide (p0 = (67 : Int)) = true then (8 : Int) else (0 : Int)
                    else if decide (p0 = (69 : Int)) = true then (8 : Int) else (0 : Int)
            else
              if decide (p0 = (17 : Int)) = true then
                if decide (p0 = (17 : Int)) = true then (4 : Int)
                else
                  if decide (p0 = (14 : Int)) = true then
                    if decide (p0 = (14 : Int)) = true then (8 : Int) else (0 : Int)
                  else
                    if decide (p0 = (21 : Int)) = true then
                      if decide (p0 = (21 : Int)) = true then (8 : Int) else (0 : Int)
                    else
                      if decide (p0 = (67 : Int)) = true then
                        if decide (p0 = (67 : Int)) = true then (8 : Int) else (0 : Int)
                      else if decide (p0 = (69 : Int)) = true then (8 : Int) else (0 : Int)
              else
                if decide (p0 = (20 : Int)) = true then
                  if decide (p0 = (20 : Int)) = true then (4 : Int)
                  else
                    if decide (p0 = (14 : Int)) = true then
                      if decide (p0 = (14 : Int)) = true then (8 : Int) else (0 : Int)
                    else
                      if decide (p0 = (21 : Int)) = true then
                        if decide (p0 = (21 : Int)) = true then (8 : Int) else (0 : Int)
                      else
                        if decide (p0 = (67 : Int)) = true then
                          if decide (p0 = (67 : Int)) = true then (8 : Int) else (0 : Int)
                        else if decide (p0 = (69 : Int)) = true then (8 : Int) else (0 : Int)
                else
                  if decide (p0 = (66 : Int)) = true then
                    if decide (p0 = (66 : Int)) = true then (4 : Int)
                    else
                      if decide (p0 = (14 : Int)) = true then
                        if decide (p0 = (14 : Int)) = true then (8 : Int) else (0 : Int)
                      else
                        if decide (p0 = (21 : Int)) = true then
                          if decide (p0 = (21 : Int)) = true then (8 : Int) else (0 : Int)
                        else
                          if decide (p0 = (67 : Int)) = true then
                            if decide (p0 = (67 : Int)) = true then (8 : Int) else (0 : Int)
                          else if decide (p0 = (69 : Int)) = true then (8 : Int) else (0 : Int)
                  else
                    if decide (p0 = (68 : Int)) = true then (4 : Int)
                    else
                      if decide (p0 = (14 : Int)) = true then
                        if decide (p0 = (14 : Int)) = true then (8 : Int) else (0 : Int)
                      else
                        if decide (p0 = (21 : Int)) = true then
                          if decide (p0 = (21 : Int)) = true then (8 : Int) else (0 : Int)
                        else
                          if decide (p0 = (67 : Int)) = true then
                            if decide (p0 = (67 : Int)) = true then (8 : Int) else (0 : Int)
                          else if decide (p0 = (69 : Int)) = true then (8 : Int) else (0 : Int)
        else
          if decide (p0 = (19 : Int)) = true then (2 : Int)
          else
            if decide (p0 = (13 : Int)) = true then
              if decide (p0 = (13 : Int)) = true then (4 : Int)
              else
                if decide (p0 = (14 : Int)) = true then if decide (p0 = (14 : Int)) = true then (8 : Int) else (0 : Int)
                else
                  if decide (p0 = (21 : Int)) = true then
                    if decide (p0 = (21 : Int)) = true then (8 : Int) else (0 : Int)
                  else
                    if decide (p0 = (67 : Int)) = true then
                      if decide (p0 = (67 : Int)) = true then (8 : Int) else (0 : Int)
                    else if decide (p0 = (69 : Int)) = true then (8 : Int) else (0 : Int)
            else
              if decide (p0 = (17 : Int)) = true then
                if decide (p0 = (17 : Int)) = true then (4 : Int)
                else
                  if decide (p0 = (14 : Int)) = true then
                    if decide (p0 = (14 : Int)) = true then (8 : Int) else (0 : Int)
                  else
                    if decide (p0 = (21 : Int)) = true then
                      if decide (p0 = (21 : Int)) = true then (8 : Int) else (0 : Int)
                    else
                      if decide (p0 = (67 : Int)) = true then
                        if decide (p0 = (67 : Int)) = true then (8 : Int) else (0 : Int)
                      else if decide (p0 = (69 : Int)) = true then (8 : Int) else (0 : Int)
              else
                if decide (p0 = (20 : Int)) = true then
                  if decide (p0 = (20 : Int)) = true then (4 : Int)
                  else
                    if decide (p0 = (14 : Int)) = true then
                      if decide (p0 = (14 : Int)) = true then (8 : Int) else (0 : Int)
                    else
                      if decide (p0 = (21 : Int)) = true then
                        if decide (p0 = (21 : Int)) = true then (8 : Int) else (0 : Int)
                      else
                        if decide (p0 = (67 : Int)) = true then
                          if decide (p0 = (67 : Int)) = true then (8 : Int) else (0 : Int)
                        else if decide (p0 = (69 : Int)) = true then (8 : Int) else (0 : Int)
                else
                  if decide (p0 = (66 : Int)) = true then
                    if decide (p0 = (66 : Int)) = true then (4 : Int)
                    else
                      if decide (p0 = (14 : Int)) = true then
                        if decide (p0 = (14 : Int)) = true then (8 : Int) else (0 : Int)
                      else
                        if decide (p0 = (21 : Int)) = true then
                          if decide (p0 = (21 : Int)) = true then (8 : Int) else (0 : Int)
                        else
                          if decide (p0 = (67 : Int)) = true then
                            if decide (p0 = (67 : Int)) = true then (8 : Int) else (0 : Int)
                          else if decide (p0 = (69 : Int)) = true then (8 : Int) else (0 : Int)
                  else
                    if decide (p0 = (68 : Int)) = true then (4 : Int)
                    else
                      if decide (p0 = (14 : Int)) = true then
                        if decide (p0 = (14 : Int)) = true then (8 : Int) else (0 : Int)
                      else
                        if decide (p0 = (21 : Int)) = true then
                          if decide (p0 = (21 : Int)) = true then (8 : Int) else (0 : Int)
                        else
                          if decide (p0 = (67 : Int)) = true then
                            if decide (p0 = (67 : Int)) = true then (8 : Int) else (0 : Int)
                          else if decide (p0 = (69 : Int)) = true then (8 : Int) else (0 : Int)
  else
    if decide (p0 = (18 : Int)) = true then (1 : Int)
    else
      if decide (p0 = (12 : Int)) = true then
        if decide (p0 = (12 : Int)) = true then (2 : Int)
        else
          if decide (p0 = (13 : Int)) = true then
            if decide (p0 = (13 : Int)) = true then (4 : Int)
            else
              if decide (p0 = (14 : Int)) = true then if decide (p0 = (14 : Int)) = true then (8 : Int) else (0 : Int)
              else
                if decide (p0 = (21 : Int)) = true then if decide (p0 = (21 : Int)) = true then (8 : Int) else (0 : Int)
                else
                  if decide (p0 = (67 : Int)) = true then
                    if decide (p0 = (67 : Int)) = true then (8 : Int) else (0 : Int)
                  else if decide (p0 = (69 : Int)) = true then (8 : Int) else (0 : Int)
          else
            if decide (p0 = (17 : Int)) = true then
              if decide (p0 = (17 : Int)) = true then (4 : Int)
              else
                if decide (p0 = (14 : Int)) = true then if decide (p0 = (14 : Int)) = true then (8 : Int) else (0 : Int)
                else
                  if decide (p0 = (21 : Int)) = true then
                    if decide (p0 = (21 : Int)) = true then (8 : Int) else (0 : Int)
                  else
                    if decide (p0 = (67 : Int)) = true then
                      if decide (p0 = (67 : Int)) = true then (8 : Int) else (0 : Int)
                    else if decide (p0 = (69 : Int)) = true then (8 : Int) else (0 : Int)
            else
              if decide (p0 = (20 : Int)) = true then
                if decide (p0 = (20 : Int)) = true then (4 : Int)
                else
                  if decide (p0 = (14 : Int)) = true then
                    if decide (p0 = (14 : Int)) = true then (8 : Int) else (0 : Int)
                  else
                    if decide (p0 = (21 : Int)) = true then
                      if decide (p0 = (21 : Int)) = true then (8 : Int) else (0 : Int)
                    else
                      if decide (p0 = (67 : Int)) = true then
                        if decide (p0 = (67 : Int)) = true then (8 : Int) else (0 : Int)
                      else if decide (p0 = (69 : Int)) = true then (8 : Int) else (0 : Int)
              else
                if decide (p0 = (66 : Int)) = true then
                  if decide (p0 = (66 : Int)) = true then (4 : Int)
                  else
                    if decide (p0 = (14 : Int)) = true then
                      if decide (p0 = (14 : Int)) = true then (8 : Int) else (0 : Int)
                    else
                      if decide (p0 = (21 : Int)) = true then
                        if decide (p0 = (21 : Int)) = true then (8 : Int) else (0 : Int)
                      else
                        if decide (p0 = (67 : Int)) = true then
                          if decide (p0 = (67 : Int)) = true then (8 : Int) else (0 : Int)
                        else if decide (p0 = (69 : Int)) = true then (8 : Int) else (0 : Int)
                else
                  if decide (p0 = (68 : Int)) = true then (4 : Int)
                  else
                    if decide (p0 = (14 : Int)) = true then
                      if decide (p0 = (14 : Int)) = true then (8 : Int) else (0 : Int)
                    else
                      if decide (p0 = (21 : Int)) = true then
                        if decide (p0 = (21 : Int)) = true then (8 : Int) else (0 : Int)
                      else
                        if decide (p0 = (67 : Int)) = true then
                          if decide (p0 = (67 : Int)) = true then (8 : Int) else (0 : Int)
                        else if decide (p0 = (69 : Int)) = true then (8 : Int) else (0 : Int)
      else
        if decide (p0 = (16 : Int)) = true then
          if decide (p0 = (16 : Int)) = true then (2 : Int)
          else
            if decide (p0 = (13 : Int)) = true then
              if decide (p0 = (13 : Int)) = true then (4 : Int)
              else
                if decide (p0 = (14 : Int)) = true then if decide (p0 = (14 : Int)) = true then (8 : Int) else (0 : Int)
                else
                  if decide (p0 = (21 : Int)) = true then
                    if decide (p0 = (21 : Int)) = true then (8 : Int) else (0 : Int)
                  else
                    if decide (p0 = (67 : Int)) = true then
                      if decide (p0 = (67 : Int)) = true then (8 : Int) else (0 : Int)
                    else if decide (p0 = (69 : Int)) = true then (8 : Int) else (0 : Int)
            else
              if decide (p0 = (17 : Int)) = true then
                if decide (p0 = (17 : Int)) = true then (4 : Int)
                else
                  if decide (p0 = (14 : Int)) = true then
                    if decide (p0 = (14 : Int)) = true then (8 : Int) else (0 : Int)
                  else
                    if decide (p0 = (21 : Int)) = true then
                      if decide (p0 = (21 : Int)) = true then (8 : Int) else (0 : Int)
                    else
                      if decide (p0 = (67 : Int)) = true then
                        if decide (p0 = (67 : Int)) = true then (8 : Int) else (0 : Int)
                      else if decide (p0 = (69 : Int)) = true then (8 : Int) else (0 : Int)
              else
                if decide (p0 = (20 : Int)) = true then
                  if decide (p0 = (20 : Int)) = true then (4 : Int)
                  else
                    if decide (p0 = (14 : Int)) = true then
                      if decide (p0 = (14 : Int)) = true then (8 : Int) else (0 : Int)
                    else
                      if decide (p0 = (21 : Int)) = true then
                        if decide (p0 = (21 : Int)) = true then (8 : Int) else (0 : Int)
                      else
                        if decide (p0 = (67 : Int)) = true then
                          if decide (p0 = (67 : Int)) = true then (8 : Int) else (0 : Int)
                        else if decide (p0 = (69 : Int)) = true then (8 : Int) else (0 : Int)
                else
                  if decide (p0 = (66 : Int)) = true then
                    if decide (p0 = (66 : Int)) = true then (4 : Int)
                    else
                      if decide (p0 = (14 : Int)) = true then
                        if decide (p0 = (14 : Int)) = true then (8 : Int) else (0 : Int)
                      else
                        if decide (p0 = (21 : Int)) = true then
                          if decide (p0 = (21 : Int)) = true then (8 : Int) else (0 : Int)
                        else
                          if decide (p0 = (67 : Int)) = true then
                            if decide (p0 = (67 : Int)) = true then (8 : Int) else (0 : Int)
                          else if decide (p0 = (69 : Int)) = true then (8 : Int) else (0 : Int)
                  else
                    if decide (p0 = (68 : Int)) = true then (4 : Int)
                    else
                      if decide (p0 = (14 : Int)) = true then
                        if decide (p0 = (14 : Int)) = true then (8 : Int) else (0 : Int)
                      else
                        if decide (p0 = (21 : Int)) = true then
                          if decide (p0 = (21 : Int)) = true then (8 : Int) else (0 : Int)
                        else
                          if decide (p0 = (67 : Int)) = true then
                            if decide (p0 = (67 : Int)) = true then (8 : Int) else (0 : Int)
                          else if decide (p0 = (69 : Int)) = true then (8 : Int) else (0 : Int)
        else
          if decide (p0 = (19 : Int)) = true then (2 : Int)
          else
            if decide (p0 = (13 : Int)) = true then
              if decide (p0 = (13 : Int)) = true then (4 : Int)
              else
                if decide (p0 = (14 : Int)) = true then if decide (p0 = (14 : Int)) = true then (8 : Int) else (0 : Int)
                else
                  if decide (p0 = (21 : Int)) = true then
                    if decide (p0 = (21 : Int)) = true then (8 : Int) else (0 : Int)
                  else
                    if decide (p0 = (67 : Int)) = true then
                      if decide (p0 = (67 : Int)) = true then (8 : Int) else (0 : Int)
                    else if decide (p0 = (69 : Int)) = true then (8 : Int) else (0 : Int)
            else
              if decide (p0 = (17 : Int)) = true then
                if decide (p0 = (17 : Int)) = true then (4 : Int)
                else
                  if decide (p0 = (14 : Int)) = true then
                    if decide (p0 = (14 : Int)) = true then (8 : Int) else (0 : Int)
                  else
                    if decide (p0 = (21 : Int)) = true then
                      if decide (p0 = (21 : Int)) = true then (8 : Int) else (0 : Int)
                    else
                      if decide (p0 = (67 : Int)) = true then
                        if decide (p0 = (67 : Int)) = true then (8 : Int) else (0 : Int)
                      else if decide (p0 = (69 : Int)) = true then (8 : Int) else (0 : Int)
              else
                if decide (p0 = (20 : Int)) = true then
                  if decide (p0 = (20 : Int)) = true then (4 : Int)
                  else
                    if decide (p0 = (14 : Int)) = true then
                      if decide (p0 = (14 : Int)) = true then (8 : Int) else (0 : Int)
                    else
                      if decide (p0 = (21 : Int)) = true then
                        if decide (p0 = (21 : Int)) = true then (8 : Int) else (0 : Int)
                      else
                        if decide (p0 = (67 : Int)) = true then
                          if decide (p0 = (67 : Int)) = true then (8 : Int) else (0 : Int)
                        else if decide (p0 = (69 : Int)) = true then (8 : Int) else (0 : Int)
                else
                  if decide (p0 = (66 : Int)) = true then
                    if decide (p0 = (66 : Int)) = true then (4 : Int)
                    else
                      if decide (p0 = (14 : Int)) = true then
                        if decide (p0 = (14 : Int)) = true then (8 : Int) else (0 : Int)
                      else
                        if decide (p0 = (21 : Int)) = true then
                          if decide (p0 = (21 : Int)) = true then (8 : Int) else (0 : Int)
                        else
                          if decide (p0 = (67 : Int)) = true then
                            if decide (p0 = (67 : Int)) = true then (8 : Int) else (0 : Int)
                          else if decide (p0 = (69 : Int)) = true then (8 : Int) else (0 : Int)
                  else
                    if decide (p0 = (68 : Int)) = true then (4 : Int)
                    else
                      if decide (p0 = (14 : Int)) = true then
                        if decide (p0 = (14 : Int)) = true then (8 : Int) else (0 : Int)
                      else
                        if decide (p0 = (21 : Int)) = true then
                          if decide (p0 = (21 : Int)) = true then (8 : Int) else (0 : Int)
                        else
                          if decide (p0 = (67 : Int)) = true then
                            if decide (p0 = (67 : Int)) = true then (8 : Int) else (0 : Int)
                          else if decide (p0 = (69 : Int)) = true then (8 : Int) else (0 : Int)
def nd_insn_Size (p0 : Int) : Nd := Nd.yes
def m_access_cause_0 (p0 : Int) (p1 : Nat → BitVec 64) : BitVec (64 : Nat) := p1
  (if (2 : Int) < if p0 < (0 : Int) then (0 : Int) else p0 then (2 : Int)
    else if p0 < (0 : Int) then (0 : Int) else p0).toNat
def nd_access_cause (p0 : Int) (p1 : Nat → BitVec 64) : Nd := (Nd.prop
      (((0 : Int) ≤
          if (2 : Int) < if p0 < (0 : Int) then (0 : Int) else p0 then (2 : Int)
          else if p0 < (0 : Int) then (0 : Int) else p0) ∧
        (if (2 : Int) < if p0 < (0 : Int) then (0 : Int) else p0 then (2 : Int)
          else if p0 < (0 : Int) then (0 : Int) else p0) <
          (3 : Int))).and
  (Nd.prop
    ((if (2 : Int) < if p0 < (0 : Int) then (0 : Int) else p0 then (2 : Int)
        else if p0 < (0 : Int) then (0 : Int) else p0).toNat <
      (3 : Nat)))
def m_insn_field_0 (p0 : Bool) (p1 : Int) (p2 : Int) : Bool := bif decide (p1 = (0 : Int)) then true
else bif bif p0 then decide ((0 : Int) < p1) else false then decide (p1 < p2) else false
def nd_insn_field (p0 : Bool) (p1 : Int) (p2 : Int) : Nd := (Nd.prop ((!decide (p1 = (0 : Int))) = true → (!decide (p1 = (0 : Int))) = true)).and
  ((Nd.prop ((!decide (p1 = (0 : Int)) && p0) = true → (!decide (p1 = (0 : Int)) && p0) = true)).and
    ((Nd.prop ((!decide (p1 = (0 : Int))) = true → p0 = true → (!decide (p1 = (0 : Int)) && p0) = true)).and
      ((Nd.prop ((!decide (p1 = (0 : Int))) = true → (!decide (p1 = (0 : Int))) = true)).and
        ((Nd.prop ((!decide (p1 = (0 : Int))) = true → (!decide (p1 = (0 : Int))) = true)).and
          ((Nd.prop
                ((!decide (p1 = (0 : Int)) && bif p0 then decide ((0 : Int) < p1) else false) = true →
                  (!decide (p1 = (0 : Int)) && bif p0 then decide ((0 : Int) < p1) else false) = true)).and
            ((Nd.prop
                  ((!decide (p1 = (0 : Int)) && bif p0 then decide ((0 : Int) < p1) else false) = true →
                    (!decide (p1 = (0 : Int)) && bif p0 then decide ((0 : Int) < p1) else false) = true)).and
              ((Nd.prop
                    ((!decide (p1 = (0 : Int))) = true →
                      (bif p0 then decide ((0 : Int) < p1) else false) = true →
                        (!decide (p1 = (0 : Int)) && bif p0 then decide ((0 : Int) < p1) else false) = true)).and
                ((Nd.prop ((!decide (p1 = (0 : Int))) = true → (!decide (p1 = (0 : Int))) = true)).and
                  (Nd.prop (decide (p1 = (0 : Int)) = false → (!decide (p1 = (0 : Int))) = true))))))))))
def m_access_sort_0 (p0 : BitVec 64) : Int := if (p0 == BitVec.ofNat (64 : Nat) (12 : Nat)) = true then (1 : Int)
else if (p0 == BitVec.ofNat (64 : Nat) (20 : Nat)) = true then (2 : Int) else (0 : Int)
def nd_access_sort (p0 : BitVec 64) : Nd := Nd.yes
def m_word_Sext_0 (p0 : BitVec 64) (p1 : Int) : BitVec (64 : Nat) := BitVec.ofInt (64 : Nat)
  ((p0 <<<
          min
            (IntKind.i64.wrap
                ((64 : Int) -
                  if (64 : Int) < if p1 < (1 : Int) then (1 : Int) else p1 then (64 : Int)
                  else if p1 < (1 : Int) then (1 : Int) else p1)).toNat
            (64 : Nat)).toInt.fdiv
    ((2 : Int) ^
      min
        (IntKind.i64.wrap
            ((64 : Int) -
              if (64 : Int) < if p1 < (1 : Int) then (1 : Int) else p1 then (64 : Int)
              else if p1 < (1 : Int) then (1 : Int) else p1)).toNat
        (64 : Nat)))
def nd_word_Sext (p0 : BitVec 64) (p1 : Int) : Nd := (Nd.prop
      ((0 : Int) ≤
        IntKind.i64.wrap
          ((64 : Int) -
            if (64 : Int) < if p1 < (1 : Int) then (1 : Int) else p1 then (64 : Int)
            else if p1 < (1 : Int) then (1 : Int) else p1))).and
  (Nd.prop
    ((0 : Int) ≤
      IntKind.i64.wrap
        ((64 : Int) -
          if (64 : Int) < if p1 < (1 : Int) then (1 : Int) else p1 then (64 : Int)
          else if p1 < (1 : Int) then (1 : Int) else p1)))
def m_two_faults_fault_0 (p0 : BitVec 64) (p1 : Int) (p2 : Bool) (p3 : BitVec 64) (p4 : Nat → BitVec 64) : BitVec (64 : Nat) := p4
  (if (2 : Int) < if p1 < (0 : Int) then (0 : Int) else p1 then (2 : Int)
    else if p1 < (0 : Int) then (0 : Int) else p1).toNat
def m_two_faults_fault_1 (p0 : BitVec 64) (p1 : Int) (p2 : Bool) (p3 : BitVec 64) (p4 : Nat → BitVec 64) : BitVec (64 : Nat) := p3 / BitVec.ofNat (64 : Nat) (4 : Nat)
def nd_two_faults_fault (p0 : BitVec 64) (p1 : Int) (p2 : Bool) (p3 : BitVec 64) (p4 : Nat → BitVec 64) : Nd := (Nd.prop
      (((0 : Int) ≤
          if (2 : Int) < if p1 < (0 : Int) then (0 : Int) else p1 then (2 : Int)
          else if p1 < (0 : Int) then (0 : Int) else p1) ∧
        (if (2 : Int) < if p1 < (0 : Int) then (0 : Int) else p1 then (2 : Int)
          else if p1 < (0 : Int) then (0 : Int) else p1) <
          (3 : Int))).and
  (Nd.prop
    ((if (2 : Int) < if p1 < (0 : Int) then (0 : Int) else p1 then (2 : Int)
        else if p1 < (0 : Int) then (0 : Int) else p1).toNat <
      (3 : Nat)))
def m_insn_jumps_0 (p0 : Int) : Bool := if decide (p0 = (3 : Int)) = true then true else if decide (p0 = (4 : Int)) = true then true else true
def m_insn_jumps_1 (p0 : Int) : Bool := if decide (p0 = (3 : Int)) = true then false else if decide (p0 = (4 : Int)) = true then false else false
def m_insn_jumps_2 (p0 : Int) : Bool := if decide (p0 = (3 : Int)) = true then false else if decide (p0 = (4 : Int)) = true then true else false
def m_insn_jumps_3 (p0 : Int) : Bool := if decide (p0 = (3 : Int)) = true then false else if decide (p0 = (4 : Int)) = true then false else false
def m_insn_jumps_4 (p0 : Int) : Int := if decide (p0 = (3 : Int)) = true then (-1048576 : Int)
else if decide (p0 = (4 : Int)) = true then (-2048 : Int) else (-2147483648 : Int)
def m_insn_jumps_5 (p0 : Int) : Int := if decide (p0 = (3 : Int)) = true then (1048574 : Int)
else if decide (p0 = (4 : Int)) = true then (2047 : Int) else (2147479552 : Int)
def m_insn_jumps_6 (p0 : Int) : Int := if decide (p0 = (3 : Int)) = true then (2 : Int) else if decide (p0 = (4 : Int)) = true then (1 : Int) else (4096 : Int)
def nd_insn_jumps (p0 : Int) : Nd := Nd.yes
def m_insn_withNumber_0 (p0 : Int) : Bool := if decide (p0 = (28 : Int)) = true then
  if decide (p0 = (28 : Int)) = true then true
  else
    if decide (p0 = (32 : Int)) = true then if decide (p0 = (32 : Int)) = true then true else true
    else
      if decide (p0 = (33 : Int)) = true then if decide (p0 = (33 : Int)) = true then true else true
      else if decide (p0 = (34 : Int)) = true then true else true
else
  if decide (p0 = (29 : Int)) = true then
    if decide (p0 = (29 : Int)) = true then true
    else
      if decide (p0 = (32 : Int)) = true then if decide (p0 = (32 : Int)) = true then true else true
      else
        if decide (p0 = (33 : Int)) = true then if decide (p0 = (33 : Int)) = true then true else true
        else if decide (p0 = (34 : Int)) = true then true else true
  else
    if decide (p0 = (30 : Int)) = true then true
    else
      if decide (p0 = (32 : Int)) = true then if decide (p0 = (32 : Int)) = true then true else true
      else
        if decide (p0 = (33 : Int)) = true then if decide (p0 = (33 : Int)) = true then true else true
        else if decide (p0 = (34 : Int)) = true then true else true
def m_insn_withNumber_1 (p0 : Int) : Bool := if decide (p0 = (28 : Int)) = true then
  if decide (p0 = (28 : Int)) = true then false
  else
    if decide (p0 = (32 : Int)) = true then if decide (p0 = (32 : Int)) = true then false else false
    else
      if decide (p0 = (33 : Int)) = true then if decide (p0 = (33 : Int)) = true then false else false
      else if decide (p0 = (34 : Int)) = true then false else false
else
  if decide (p0 = (29 : Int)) = true then
    if decide (p0 = (29 : Int)) = true then false
    else
      if decide (p0 = (32 : Int)) = true then if decide (p0 = (32 : Int)) = true then false else false
      else
        if decide (p0 = (33 : Int)) = true then if decide (p0 = (33 : Int)) = true then false else false
        else if decide (p0 = (34 : Int)) = true then false else false
  else
    if decide (p0 = (30 : Int)) = true then false
    else
      if decide (p0 = (32 : Int)) = true then if decide (p0 = (32 : Int)) = true then false else false
      else
        if decide (p0 = (33 : Int)) = true then if decide (p0 = (33 : Int)) = true then false else false
        else if decide (p0 = (34 : Int)) = true then false else false
def m_insn_withNumber_2 (p0 : Int) : Bool := if decide (p0 = (28 : Int)) = true then
  if decide (p0 = (28 : Int)) = true then true
  else
    if decide (p0 = (32 : Int)) = true then if decide (p0 = (32 : Int)) = true then true else true
    else
      if decide (p0 = (33 : Int)) = true then if decide (p0 = (33 : Int)) = true then true else true
      else if decide (p0 = (34 : Int)) = true then true else true
else
  if decide (p0 = (29 : Int)) = true then
    if decide (p0 = (29 : Int)) = true then true
    else
      if decide (p0 = (32 : Int)) = true then if decide (p0 = (32 : Int)) = true then true else true
      else
        if decide (p0 = (33 : Int)) = true then if decide (p0 = (33 : Int)) = true then true else true
        else if decide (p0 = (34 : Int)) = true then true else true
  else
    if decide (p0 = (30 : Int)) = true then true
    else
      if decide (p0 = (32 : Int)) = true then if decide (p0 = (32 : Int)) = true then true else true
      else
        if decide (p0 = (33 : Int)) = true then if decide (p0 = (33 : Int)) = true then true else true
        else if decide (p0 = (34 : Int)) = true then true else true
def m_insn_withNumber_3 (p0 : Int) : Bool := if decide (p0 = (28 : Int)) = true then
  if decide (p0 = (28 : Int)) = true then false
  else
    if decide (p0 = (32 : Int)) = true then if decide (p0 = (32 : Int)) = true then false else false
    else
      if decide (p0 = (33 : Int)) = true then if decide (p0 = (33 : Int)) = true then false else false
      else if decide (p0 = (34 : Int)) = true then false else false
else
  if decide (p0 = (29 : Int)) = true then
    if decide (p0 = (29 : Int)) = true then false
    else
      if decide (p0 = (32 : Int)) = true then if decide (p0 = (32 : Int)) = true then false else false
      else
        if decide (p0 = (33 : Int)) = true then if decide (p0 = (33 : Int)) = true then false else false
        else if decide (p0 = (34 : Int)) = true then false else false
  else
    if decide (p0 = (30 : Int)) = true then false
    else
      if decide (p0 = (32 : Int)) = true then if decide (p0 = (32 : Int)) = true then false else false
      else
        if decide (p0 = (33 : Int)) = true then if decide (p0 = (33 : Int)) = true then false else false
        else if decide (p0 = (34 : Int)) = true then false else false
def m_insn_withNumber_4 (p0 : Int) : Int := if decide (p0 = (28 : Int)) = true then
  if decide (p0 = (28 : Int)) = true then (0 : Int)
  else
    if decide (p0 = (32 : Int)) = true then if decide (p0 = (32 : Int)) = true then (0 : Int) else (-2048 : Int)
    else
      if decide (p0 = (33 : Int)) = true then if decide (p0 = (33 : Int)) = true then (0 : Int) else (-2048 : Int)
      else if decide (p0 = (34 : Int)) = true then (0 : Int) else (-2048 : Int)
else
  if decide (p0 = (29 : Int)) = true then
    if decide (p0 = (29 : Int)) = true then (0 : Int)
    else
      if decide (p0 = (32 : Int)) = true then if decide (p0 = (32 : Int)) = true then (0 : Int) else (-2048 : Int)
      else
        if decide (p0 = (33 : Int)) = true then if decide (p0 = (33 : Int)) = true then (0 : Int) else (-2048 : Int)
        else if decide (p0 = (34 : Int)) = true then (0 : Int) else (-2048 : Int)
  else
    if decide (p0 = (30 : Int)) = true then (0 : Int)
    else
      if decide (p0 = (32 : Int)) = true then if decide (p0 = (32 : Int)) = true then (0 : Int) else (-2048 : Int)
      else
        if decide (p0 = (33 : Int)) = true then if decide (p0 = (33 : Int)) = true then (0 : Int) else (-2048 : Int)
        else if decide (p0 = (34 : Int)) = true then (0 : Int) else (-2048 : Int)
def m_insn_withNumber_5 (p0 : Int) : Int := if decide (p0 = (28 : Int)) = true then
  if decide (p0 = (28 : Int)) = true then (63 : Int)
  else
    if decide (p0 = (32 : Int)) = true then if decide (p0 = (32 : Int)) = true then (31 : Int) else (2047 : Int)
    else
      if decide (p0 = (33 : Int)) = true then if decide (p0 = (33 : Int)) = true then (31 : Int) else (2047 : Int)
      else if decide (p0 = (34 : Int)) = true then (31 : Int) else (2047 : Int)
else
  if decide (p0 = (29 : Int)) = true then
    if decide (p0 = (29 : Int)) = true then (63 : Int)
    else
      if decide (p0 = (32 : Int)) = true then if decide (p0 = (32 : Int)) = true then (31 : Int) else (2047 : Int)
      else
        if decide (p0 = (33 : Int)) = true then if decide (p0 = (33 : Int)) = true then (31 : Int) else (2047 : Int)
        else if decide (p0 = (34 : Int)) = true then (31 : Int) else (2047 : Int)
  else
    if decide (p0 = (30 : Int)) = true then (63 : Int)
    else
      if decide (p0 = (32 : Int)) = true then if decide (p0 = (32 : Int)) = true then (31 : Int) else (2047 : Int)
      else
        if decide (p0 = (33 : Int)) = true then if decide (p0 = (33 : Int)) = true then (31 : Int) else (2047 : Int)
        else if decide (p0 = (34 : Int)) = true then (31 : Int) else (2047 : Int)
def m_insn_withNumber_6 (p0 : Int) : Int := if decide (p0 = (28 : Int)) = true then
  if decide (p0 = (28 : Int)) = true then (1 : Int)
  else
    if decide (p0 = (32 : Int)) = true then if decide (p0 = (32 : Int)) = true then (1 : Int) else (1 : Int)
    else
      if decide (p0 = (33 : Int)) = true then if decide (p0 = (33 : Int)) = true then (1 : Int) else (1 : Int)
      else if decide (p0 = (34 : Int)) = true then (1 : Int) else (1 : Int)
else
  if decide (p0 = (29 : Int)) = true then
    if decide (p0 = (29 : Int)) = true then (1 : Int)
    else
      if decide (p0 = (32 : Int)) = true then if decide (p0 = (32 : Int)) = true then (1 : Int) else (1 : Int)
      else
        if decide (p0 = (33 : Int)) = true then if decide (p0 = (33 : Int)) = true then (1 : Int) else (1 : Int)
        else if decide (p0 = (34 : Int)) = true then (1 : Int) else (1 : Int)
  else
    if decide (p0 = (30 : Int)) = true then (1 : Int)
    else
      if decide (p0 = (32 : Int)) = true then if decide (p0 = (32 : Int)) = true then (1 : Int) else (1 : Int)
      else
        if decide (p0 = (33 : Int)) = true then if decide (p0 = (33 : Int)) = true then (1 : Int) else (1 : Int)
        else if decide (p0 = (34 : Int)) = true then (1 : Int) else (1 : Int)
def nd_insn_withNumber (p0 : Int) : Nd := Nd.yes
def m_word_part_0 (p0 : Int) (p1 : Int) : Int := if (63 : Int) < if p0 < (0 : Int) then (0 : Int) else p0 then (63 : Int) else if p0 < (0 : Int) then (0 : Int) else p0
def m_word_part_1 (p0 : Int) (p1 : Int) : Int := if
    IntKind.i64.wrap
        ((64 : Int) -
          if (63 : Int) < if p0 < (0 : Int) then (0 : Int) else p0 then (63 : Int)
          else if p0 < (0 : Int) then (0 : Int) else p0) <
      if p1 < (0 : Int) then (0 : Int) else p1 then
  IntKind.i64.wrap
    ((64 : Int) -
      if (63 : Int) < if p0 < (0 : Int) then (0 : Int) else p0 then (63 : Int)
      else if p0 < (0 : Int) then (0 : Int) else p0)
else if p1 < (0 : Int) then (0 : Int) else p1
def nd_word_part (p0 : Int) (p1 : Int) : Nd := Nd.yes
def m_word_mask_0 (p0 : Int) : BitVec (64 : Nat) := if decide ((64 : Int) ≤ p0) = true then BitVec.ofNat (64 : Nat) (18446744073709551615 : Nat)
else BitVec.ofNat (64 : Nat) (1 : Nat) <<< min p0.toNat (64 : Nat) - BitVec.ofNat (64 : Nat) (1 : Nat)
def nd_word_mask (p0 : Int) : Nd := Nd.ite (decide ((64 : Int) ≤ p0)) Nd.yes (Nd.prop ((0 : Int) ≤ p0))
def m_pte_Is_0 (p0 : BitVec 64) : Bool := bif
    bif
        bif !p0 &&& BitVec.ofNat (64 : Nat) (1 : Nat) == BitVec.ofNat (64 : Nat) (0 : Nat) then
          bif p0 &&& BitVec.ofNat (64 : Nat) (4 : Nat) == BitVec.ofNat (64 : Nat) (0 : Nat) then true
          else !p0 &&& BitVec.ofNat (64 : Nat) (2 : Nat) == BitVec.ofNat (64 : Nat) (0 : Nat)
        else false then
      p0 &&& BitVec.ofNat (64 : Nat) (32 : Nat) == BitVec.ofNat (64 : Nat) (0 : Nat)
    else false then
  p0 >>> (16 : Nat) == BitVec.ofNat (64 : Nat) (0 : Nat)
else false
def nd_pte_Is (p0 : BitVec 64) : Nd := (Nd.prop
      ((!p0 &&& BitVec.ofNat (64 : Nat) (1 : Nat) == BitVec.ofNat (64 : Nat) (0 : Nat)) = true →
        (!p0 &&& BitVec.ofNat (64 : Nat) (1 : Nat) == BitVec.ofNat (64 : Nat) (0 : Nat)) = true)).and
  ((Nd.prop
        ((!p0 &&& BitVec.ofNat (64 : Nat) (1 : Nat) == BitVec.ofNat (64 : Nat) (0 : Nat)) = true →
          (!p0 &&& BitVec.ofNat (64 : Nat) (1 : Nat) == BitVec.ofNat (64 : Nat) (0 : Nat)) = true)).and
    ((Nd.prop
          ((!p0 &&& BitVec.ofNat (64 : Nat) (1 : Nat) == BitVec.ofNat (64 : Nat) (0 : Nat)) = true →
            (!p0 &&& BitVec.ofNat (64 : Nat) (1 : Nat) == BitVec.ofNat (64 : Nat) (0 : Nat)) = true)).and
      ((Nd.prop
            ((!p0 &&& BitVec.ofNat (64 : Nat) (1 : Nat) == BitVec.ofNat (64 : Nat) (0 : Nat) &&
                  !p0 &&& BitVec.ofNat (64 : Nat) (4 : Nat) == BitVec.ofNat (64 : Nat) (0 : Nat)) =
                true →
              (!p0 &&& BitVec.ofNat (64 : Nat) (1 : Nat) == BitVec.ofNat (64 : Nat) (0 : Nat) &&
                  !p0 &&& BitVec.ofNat (64 : Nat) (4 : Nat) == BitVec.ofNat (64 : Nat) (0 : Nat)) =
                true)).and
        ((Nd.prop
              ((!p0 &&& BitVec.ofNat (64 : Nat) (1 : Nat) == BitVec.ofNat (64 : Nat) (0 : Nat) &&
                    !p0 &&& BitVec.ofNat (64 : Nat) (4 : Nat) == BitVec.ofNat (64 : Nat) (0 : Nat)) =
                  true →
                (!p0 &&& BitVec.ofNat (64 : Nat) (1 : Nat) == BitVec.ofNat (64 : Nat) (0 : Nat) &&
                    !p0 &&& BitVec.ofNat (64 : Nat) (4 : Nat) == BitVec.ofNat (64 : Nat) (0 : Nat)) =
                  true)).and
          ((Nd.prop
                ((!p0 &&& BitVec.ofNat (64 : Nat) (1 : Nat) == BitVec.ofNat (64 : Nat) (0 : Nat)) = true →
                  (p0 &&& BitVec.ofNat (64 : Nat) (4 : Nat) == BitVec.ofNat (64 : Nat) (0 : Nat)) = false →
                    (!p0 &&& BitVec.ofNat (64 : Nat) (1 : Nat) == BitVec.ofNat (64 : Nat) (0 : Nat) &&
                        !p0 &&& BitVec.ofNat (64 : Nat) (4 : Nat) == BitVec.ofNat (64 : Nat) (0 : Nat)) =
                      true)).and
            ((Nd.prop
                  ((!p0 &&& BitVec.ofNat (64 : Nat) (1 : Nat) == BitVec.ofNat (64 : Nat) (0 : Nat)) = true →
                    (!p0 &&& BitVec.ofNat (64 : Nat) (1 : Nat) == BitVec.ofNat (64 : Nat) (0 : Nat)) = true)).and
              ((Nd.prop
                    ((!p0 &&& BitVec.ofNat (64 : Nat) (1 : Nat) == BitVec.ofNat (64 : Nat) (0 : Nat)) = true →
                      (!p0 &&& BitVec.ofNat (64 : Nat) (1 : Nat) == BitVec.ofNat (64 : Nat) (0 : Nat)) = true)).and
                ((Nd.prop
                      ((bif !p0 &&& BitVec.ofNat (64 : Nat) (1 : Nat) == BitVec.ofNat (64 : Nat) (0 : Nat) then
                            bif p0 &&& BitVec.ofNat (64 : Nat) (4 : Nat) == BitVec.ofNat (64 : Nat) (0 : Nat) then true
                            else !p0 &&& BitVec.ofNat (64 : Nat) (2 : Nat) == BitVec.ofNat (64 : Nat) (0 : Nat)
                          else false) =
                          true →
                        (bif !p0 &&& BitVec.ofNat (64 : Nat) (1 : Nat) == BitVec.ofNat (64 : Nat) (0 : Nat) then
                            bif p0 &&& BitVec.ofNat (64 : Nat) (4 : Nat) == BitVec.ofNat (64 : Nat) (0 : Nat) then true
                            else !p0 &&& BitVec.ofNat (64 : Nat) (2 : Nat) == BitVec.ofNat (64 : Nat) (0 : Nat)
                          else false) =
                          true)).and
                  ((Nd.prop
                        ((bif !p0 &&& BitVec.ofNat (64 : Nat) (1 : Nat) == BitVec.ofNat (64 : Nat) (0 : Nat) then
                              bif p0 &&& BitVec.ofNat (64 : Nat) (4 : Nat) == BitVec.ofNat (64 : Nat) (0 : Nat) then
                                true
                              else !p0 &&& BitVec.ofNat (64 : Nat) (2 : Nat) == BitVec.ofNat (64 : Nat) (0 : Nat)
                            else false) =
                            true →
                          (bif !p0 &&& BitVec.ofNat (64 : Nat) (1 : Nat) == BitVec.ofNat (64 : Nat) (0 : Nat) then
                              bif p0 &&& BitVec.ofNat (64 : Nat) (4 : Nat) == BitVec.ofNat (64 : Nat) (0 : Nat) then
                                true
                              else !p0 &&& BitVec.ofNat (64 : Nat) (2 : Nat) == BitVec.ofNat (64 : Nat) (0 : Nat)
                            else false) =
                            true)).and
                    ((Nd.prop
                          ((bif !p0 &&& BitVec.ofNat (64 : Nat) (1 : Nat) == BitVec.ofNat (64 : Nat) (0 : Nat) then
                                bif p0 &&& BitVec.ofNat (64 : Nat) (4 : Nat) == BitVec.ofNat (64 : Nat) (0 : Nat) then
                                  true
                                else !p0 &&& BitVec.ofNat (64 : Nat) (2 : Nat) == BitVec.ofNat (64 : Nat) (0 : Nat)
                              else false) =
                              true →
                            (bif !p0 &&& BitVec.ofNat (64 : Nat) (1 : Nat) == BitVec.ofNat (64 : Nat) (0 : Nat) then
                                bif p0 &&& BitVec.ofNat (64 : Nat) (4 : Nat) == BitVec.ofNat (64 : Nat) (0 : Nat) then
                                  true
                                else !p0 &&& BitVec.ofNat (64 : Nat) (2 : Nat) == BitVec.ofNat (64 : Nat) (0 : Nat)
                              else false) =
                              true)).and
                      ((Nd.prop
                            ((bif
                                    bif
                                        !p0 &&& BitVec.ofNat (64 : Nat) (1 : Nat) ==
                                            BitVec.ofNat (64 : Nat) (0 : Nat) then
                                      bif
                                          p0 &&& BitVec.ofNat (64 : Nat) (4 : Nat) ==
                                            BitVec.ofNat (64 : Nat) (0 : Nat) then
                                        true
                                      else
                                        !p0 &&& BitVec.ofNat (64 : Nat) (2 : Nat) == BitVec.ofNat (64 : Nat) (0 : Nat)
                                    else false then
                                  p0 &&& BitVec.ofNat (64 : Nat) (32 : Nat) == BitVec.ofNat (64 : Nat) (0 : Nat)
                                else false) =
                                true →
                              (bif
                                    bif
                                        !p0 &&& BitVec.ofNat (64 : Nat) (1 : Nat) ==
                                            BitVec.ofNat (64 : Nat) (0 : Nat) then
                                      bif
                                          p0 &&& BitVec.ofNat (64 : Nat) (4 : Nat) ==
                                            BitVec.ofNat (64 : Nat) (0 : Nat) then
                                        true
                                      else
                                        !p0 &&& BitVec.ofNat (64 : Nat) (2 : Nat) == BitVec.ofNat (64 : Nat) (0 : Nat)
                                    else false then
                                  p0 &&& BitVec.ofNat (64 : Nat) (32 : Nat) == BitVec.ofNat (64 : Nat) (0 : Nat)
                                else false) =
                                true)).and
                        ((Nd.prop
                              ((bif
                                      bif
                                          !p0 &&& BitVec.ofNat (64 : Nat) (1 : Nat) ==
                                              BitVec.ofNat (64 : Nat) (0 : Nat) then
                                        bif
                                            p0 &&& BitVec.ofNat (64 : Nat) (4 : Nat) ==
                                              BitVec.ofNat (64 : Nat) (0 : Nat) then
                                          true
                                        else
                                          !p0 &&& BitVec.ofNat (64 : Nat) (2 : Nat) == BitVec.ofNat (64 : Nat) (0 : Nat)
                                      else false then
                                    p0 &&& BitVec.ofNat (64 : Nat) (32 : Nat) == BitVec.ofNat (64 : Nat) (0 : Nat)
                                  else false) =
                                  true →
                                (bif
                                      bif
                                          !p0 &&& BitVec.ofNat (64 : Nat) (1 : Nat) ==
                                              BitVec.ofNat (64 : Nat) (0 : Nat) then
                                        bif
                                            p0 &&& BitVec.ofNat (64 : Nat) (4 : Nat) ==
                                              BitVec.ofNat (64 : Nat) (0 : Nat) then
                                          true
                                        else
                                          !p0 &&& BitVec.ofNat (64 : Nat) (2 : Nat) == BitVec.ofNat (64 : Nat) (0 : Nat)
                                      else false then
                                    p0 &&& BitVec.ofNat (64 : Nat) (32 : Nat) == BitVec.ofNat (64 : Nat) (0 : Nat)
                                  else false) =
                                  true)).and
                          (Nd.prop
                            ((bif
                                    bif
                                        !p0 &&& BitVec.ofNat (64 : Nat) (1 : Nat) ==
                                            BitVec.ofNat (64 : Nat) (0 : Nat) then
                                      bif
                                          p0 &&& BitVec.ofNat (64 : Nat) (4 : Nat) ==
                                            BitVec.ofNat (64 : Nat) (0 : Nat) then
                                        true
                                      else
                                        !p0 &&& BitVec.ofNat (64 : Nat) (2 : Nat) == BitVec.ofNat (64 : Nat) (0 : Nat)
                                    else false then
                                  p0 &&& BitVec.ofNat (64 : Nat) (32 : Nat) == BitVec.ofNat (64 : Nat) (0 : Nat)
                                else false) =
                                true →
                              (bif
                                    bif
                                        !p0 &&& BitVec.ofNat (64 : Nat) (1 : Nat) ==
                                            BitVec.ofNat (64 : Nat) (0 : Nat) then
                                      bif
                                          p0 &&& BitVec.ofNat (64 : Nat) (4 : Nat) ==
                                            BitVec.ofNat (64 : Nat) (0 : Nat) then
                                        true
                                      else
                                        !p0 &&& BitVec.ofNat (64 : Nat) (2 : Nat) == BitVec.ofNat (64 : Nat) (0 : Nat)
                                    else false then
                                  p0 &&& BitVec.ofNat (64 : Nat) (32 : Nat) == BitVec.ofNat (64 : Nat) (0 : Nat)
                                else false) =
                                true))))))))))))))
def m_mem_check_0 (p0 : BitVec 64) (p1 : Int) : Int := if
    (bif
          bif
              bif bif !decide (p1 = (1 : Int)) then !decide (p1 = (2 : Int)) else false then !decide (p1 = (4 : Int))
              else false then
            !decide (p1 = (8 : Int))
          else false then
        true
      else !p0 % BitVec.ofInt (64 : Nat) p1 == BitVec.ofNat (64 : Nat) (0 : Nat)) =
      true then
  (61 : Int)
else if (BitVec.ofNat (64 : Nat) (32768 : Nat)).ule p0 = true then (60 : Int) else (0 : Int)
def nd_mem_check (p0 : BitVec 64) (p1 : Int) : Nd := (Nd.prop ((!decide (p1 = (1 : Int))) = true → (!decide (p1 = (1 : Int))) = true)).and
  ((Nd.prop ((!decide (p1 = (1 : Int))) = true → (!decide (p1 = (1 : Int))) = true)).and
    ((Nd.prop
          ((bif !decide (p1 = (1 : Int)) then !decide (p1 = (2 : Int)) else false) = true →
            (bif !decide (p1 = (1 : Int)) then !decide (p1 = (2 : Int)) else false) = true)).and
      ((Nd.prop
            ((bif !decide (p1 = (1 : Int)) then !decide (p1 = (2 : Int)) else false) = true →
              (bif !decide (p1 = (1 : Int)) then !decide (p1 = (2 : Int)) else false) = true)).and
        ((Nd.prop
              ((bif bif !decide (p1 = (1 : Int)) then !decide (p1 = (2 : Int)) else false then !decide (p1 = (4 : Int))
                  else false) =
                  true →
                (bif bif !decide (p1 = (1 : Int)) then !decide (p1 = (2 : Int)) else false then !decide (p1 = (4 : Int))
                  else false) =
                  true)).and
          ((Nd.prop
                ((bif bif !decide (p1 = (1 : Int)) then !decide (p1 = (2 : Int)) else false then
                      !decide (p1 = (4 : Int))
                    else false) =
                    true →
                  (bif bif !decide (p1 = (1 : Int)) then !decide (p1 = (2 : Int)) else false then
                      !decide (p1 = (4 : Int))
                    else false) =
                    true)).and
            ((Nd.prop
                  ((!bif
                            bif bif !decide (p1 = (1 : Int)) then !decide (p1 = (2 : Int)) else false then
                              !decide (p1 = (4 : Int))
                            else false then
                          !decide (p1 = (8 : Int))
                        else false) =
                      true →
                    (!bif
                            bif bif !decide (p1 = (1 : Int)) then !decide (p1 = (2 : Int)) else false then
                              !decide (p1 = (4 : Int))
                            else false then
                          !decide (p1 = (8 : Int))
                        else false) =
                      true)).and
              ((Nd.prop
                    ((!bif
                              bif bif !decide (p1 = (1 : Int)) then !decide (p1 = (2 : Int)) else false then
                                !decide (p1 = (4 : Int))
                              else false then
                            !decide (p1 = (8 : Int))
                          else false) =
                        true →
                      BitVec.ofInt (64 : Nat) p1 ≠ BitVec.ofNat (64 : Nat) (0 : Nat))).and
                ((Nd.prop
                      ((!bif
                                bif bif !decide (p1 = (1 : Int)) then !decide (p1 = (2 : Int)) else false then
                                  !decide (p1 = (4 : Int))
                                else false then
                              !decide (p1 = (8 : Int))
                            else false) =
                          true →
                        (!bif
                                bif bif !decide (p1 = (1 : Int)) then !decide (p1 = (2 : Int)) else false then
                                  !decide (p1 = (4 : Int))
                                else false then
                              !decide (p1 = (8 : Int))
                            else false) =
                          true)).and
                  ((Nd.prop
                        ((!bif
                                  bif bif !decide (p1 = (1 : Int)) then !decide (p1 = (2 : Int)) else false then
                                    !decide (p1 = (4 : Int))
                                  else false then
                                !decide (p1 = (8 : Int))
                              else false) =
                            true →
                          (!bif
                                  bif bif !decide (p1 = (1 : Int)) then !decide (p1 = (2 : Int)) else false then
                                    !decide (p1 = (4 : Int))
                                  else false then
                                !decide (p1 = (8 : Int))
                              else false) =
                            true)).and
                    ((Nd.prop
                          ((!bif
                                    bif bif !decide (p1 = (1 : Int)) then !decide (p1 = (2 : Int)) else false then
                                      !decide (p1 = (4 : Int))
                                    else false then
                                  !decide (p1 = (8 : Int))
                                else false) =
                              true →
                            (!bif
                                    bif bif !decide (p1 = (1 : Int)) then !decide (p1 = (2 : Int)) else false then
                                      !decide (p1 = (4 : Int))
                                    else false then
                                  !decide (p1 = (8 : Int))
                                else false) =
                              true)).and
                      (Nd.prop
                        ((bif
                                bif bif !decide (p1 = (1 : Int)) then !decide (p1 = (2 : Int)) else false then
                                  !decide (p1 = (4 : Int))
                                else false then
                              !decide (p1 = (8 : Int))
                            else false) =
                            false →
                          (!bif
                                  bif bif !decide (p1 = (1 : Int)) then !decide (p1 = (2 : Int)) else false then
                                    !decide (p1 = (4 : Int))
                                  else false then
                                !decide (p1 = (8 : Int))
                              else false) =
                            true))))))))))))
def m_word_Bytes_0 (p0 : BitVec 64) (p1 : Int) : ByteArray := bytesOf
  (if (8 : Int) < if p1 < (0 : Int) then (0 : Int) else p1 then (8 : Int)
    else if p1 < (0 : Int) then (0 : Int) else p1).toNat
  (upd
    (upd
      (upd
        (upd
          (upd
            (upd
              (upd
                (upd (fun x => BitVec.ofNat (8 : Nat) (0 : Nat)) ((0 : Nat) + (0 : Nat))
                  (BitVec.setWidth (8 : Nat) (p0 >>> (0 : Nat))))
                ((0 : Nat) + (1 : Nat)) (BitVec.setWidth (8 : Nat) (p0 >>> (8 : Nat))))
              ((0 : Nat) + (2 : Nat)) (BitVec.setWidth (8 : Nat) (p0 >>> (16 : Nat))))
            ((0 : Nat) + (3 : Nat)) (BitVec.setWidth (8 : Nat) (p0 >>> (24 : Nat))))
          ((0 : Nat) + (4 : Nat)) (BitVec.setWidth (8 : Nat) (p0 >>> (32 : Nat))))
        ((0 : Nat) + (5 : Nat)) (BitVec.setWidth (8 : Nat) (p0 >>> (40 : Nat))))
      ((0 : Nat) + (6 : Nat)) (BitVec.setWidth (8 : Nat) (p0 >>> (48 : Nat))))
    ((0 : Nat) + (7 : Nat)) (BitVec.setWidth (8 : Nat) (p0 >>> (56 : Nat))))
def nd_word_Bytes (p0 : BitVec 64) (p1 : Int) : Nd := (Nd.prop
      ((0 : Int) ≤ (0 : Int) ∧
        ((0 : Int) ≤
            if (8 : Int) < if p1 < (0 : Int) then (0 : Int) else p1 then (8 : Int)
            else if p1 < (0 : Int) then (0 : Int) else p1) ∧
          (if (8 : Int) < if p1 < (0 : Int) then (0 : Int) else p1 then (8 : Int)
            else if p1 < (0 : Int) then (0 : Int) else p1) ≤
            (8 : Int))).and
  (Nd.prop
    ((if (8 : Int) < if p1 < (0 : Int) then (0 : Int) else p1 then (8 : Int)
        else if p1 < (0 : Int) then (0 : Int) else p1).toNat ≤
      (8 : Nat)))
def m_word_Get_0 (p0 : ByteArray) (p1 : Int) (p2 : Int) : BitVec (64 : Nat) := if (bif decide ((0 : Int) ≤ p1) then decide (p1 < (↑p0.size : Int)) else false) = true then
  BitVec.ofNat (64 : Nat) (0 : Nat) |||
                  BitVec.setWidth (64 : Nat)
                      (laid (fun x => BitVec.ofNat (8 : Nat) (0 : Nat))
                        (fun i => byteAt (p0.extract p1.toNat (↑p0.size : Int).toNat) i) (0 : Nat)
                        (min (p0.extract p1.toNat (↑p0.size : Int).toNat).size
                          (if (8 : Int) < if p2 < (0 : Int) then (0 : Int) else p2 then (8 : Int)
                            else if p2 < (0 : Int) then (0 : Int) else p2).toNat)
                        (0 : Nat)) <<<
                    (0 : Nat) |||
                BitVec.setWidth (64 : Nat)
                    (laid (fun x => BitVec.ofNat (8 : Nat) (0 : Nat))
                      (fun i => byteAt (p0.extract p1.toNat (↑p0.size : Int).toNat) i) (0 : Nat)
                      (min (p0.extract p1.toNat (↑p0.size : Int).toNat).size
                        (if (8 : Int) < if p2 < (0 : Int) then (0 : Int) else p2 then (8 : Int)
                          else if p2 < (0 : Int) then (0 : Int) else p2).toNat)
                      (1 : Nat)) <<<
                  (8 : Nat) |||
              BitVec.setWidth (64 : Nat)
                  (laid (fun x => BitVec.ofNat (8 : Nat) (0 : Nat))
                    (fun i => byteAt (p0.extract p1.toNat (↑p0.size : Int).toNat) i) (0 : Nat)
                    (min (p0.extract p1.toNat (↑p0.size : Int).toNat).size
                      (if (8 : Int) < if p2 < (0 : Int) then (0 : Int) else p2 then (8 : Int)
                        else if p2 < (0 : Int) then (0 : Int) else p2).toNat)
                    (2 : Nat)) <<<
                (16 : Nat) |||
            BitVec.setWidth (64 : Nat)
                (laid (fun x => BitVec.ofNat (8 : Nat) (0 : Nat))
                  (fun i => byteAt (p0.extract p1.toNat (↑p0.size : Int).toNat) i) (0 : Nat)
                  (min (p0.extract p1.toNat (↑p0.size : Int).toNat).size
                    (if (8 : Int) < if p2 < (0 : Int) then (0 : Int) else p2 then (8 : Int)
                      else if p2 < (0 : Int) then (0 : Int) else p2).toNat)
                  (3 : Nat)) <<<
              (24 : Nat) |||
          BitVec.setWidth (64 : Nat)
              (laid (fun x => BitVec.ofNat (8 : Nat) (0 : Nat))
                (fun i => byteAt (p0.extract p1.toNat (↑p0.size : Int).toNat) i) (0 : Nat)
                (min (p0.extract p1.toNat (↑p0.size : Int).toNat).size
                  (if (8 : Int) < if p2 < (0 : Int) then (0 : Int) else p2 then (8 : Int)
                    else if p2 < (0 : Int) then (0 : Int) else p2).toNat)
                (4 : Nat)) <<<
            (32 : Nat) |||
        BitVec.setWidth (64 : Nat)
            (laid (fun x => BitVec.ofNat (8 : Nat) (0 : Nat))
              (fun i => byteAt (p0.extract p1.toNat (↑p0.size : Int).toNat) i) (0 : Nat)
              (min (p0.extract p1.toNat (↑p0.size : Int).toNat).size
                (if (8 : Int) < if p2 < (0 : Int) then (0 : Int) else p2 then (8 : Int)
                  else if p2 < (0 : Int) then (0 : Int) else p2).toNat)
              (5 : Nat)) <<<
          (40 : Nat) |||
      BitVec.setWidth (64 : Nat)
          (laid (fun x => BitVec.ofNat (8 : Nat) (0 : Nat))
            (fun i => byteAt (p0.extract p1.toNat (↑p0.size : Int).toNat) i) (0 : Nat)
            (min (p0.extract p1.toNat (↑p0.size : Int).toNat).size
              (if (8 : Int) < if p2 < (0 : Int) then (0 : Int) else p2 then (8 : Int)
                else if p2 < (0 : Int) then (0 : Int) else p2).toNat)
            (6 : Nat)) <<<
        (48 : Nat) |||
    BitVec.setWidth (64 : Nat)
        (laid (fun x => BitVec.ofNat (8 : Nat) (0 : Nat))
          (fun i => byteAt (p0.extract p1.toNat (↑p0.size : Int).toNat) i) (0 : Nat)
          (min (p0.extract p1.toNat (↑p0.size : Int).toNat).size
            (if (8 : Int) < if p2 < (0 : Int) then (0 : Int) else p2 then (8 : Int)
              else if p2 < (0 : Int) then (0 : Int) else p2).toNat)
          (7 : Nat)) <<<
      (56 : Nat)
else
  if (bif decide (p1 < (0 : Int)) then decide ((-8 : Int) < p1) else false) = true then
    BitVec.ofNat (64 : Nat) (0 : Nat) |||
                    BitVec.setWidth (64 : Nat)
                        (laid (fun x => BitVec.ofNat (8 : Nat) (0 : Nat)) (fun i => byteAt p0 i)
                          (if (IntKind.i64.wrap ((0 : Int) - p1)).toNat = (8 : Nat) then (0 : Nat)
                          else (IntKind.i64.wrap ((0 : Int) - p1)).toNat)
                          (min p0.size
                            ((if (if (8 : Int) < p2 then (8 : Int) else p2) < IntKind.i64.wrap ((0 : Int) - p1) then
                                  IntKind.i64.wrap ((0 : Int) - p1)
                                else if (8 : Int) < p2 then (8 : Int) else p2).toNat -
                              (IntKind.i64.wrap ((0 : Int) - p1)).toNat))
                          (0 : Nat)) <<<
                      (0 : Nat) |||
                  BitVec.setWidth (64 : Nat)
                      (laid (fun x => BitVec.ofNat (8 : Nat) (0 : Nat)) (fun i => byteAt p0 i)
                        (if (IntKind.i64.wrap ((0 : Int) - p1)).toNat = (8 : Nat) then (0 : Nat)
                        else (IntKind.i64.wrap ((0 : Int) - p1)).toNat)
                        (min p0.size
                          ((if (if (8 : Int) < p2 then (8 : Int) else p2) < IntKind.i64.wrap ((0 : Int) - p1) then
                                IntKind.i64.wrap ((0 : Int) - p1)
                              else if (8 : Int) < p2 then (8 : Int) else p2).toNat -
                            (IntKind.i64.wrap ((0 : Int) - p1)).toNat))
                        (1 : Nat)) <<<
                    (8 : Nat) |||
                BitVec.setWidth (64 : Nat)
                    (laid (fun x => BitVec.ofNat (8 : Nat) (0 : Nat)) (fun i => byteAt p0 i)
                      (if (IntKind.i64.wrap ((0 : Int) - p1)).toNat = (8 : Nat) then (0 : Nat)
                      else (IntKind.i64.wrap ((0 : Int) - p1)).toNat)
                      (min p0.size
                        ((if (if (8 : Int) < p2 then (8 : Int) else p2) < IntKind.i64.wrap ((0 : Int) - p1) then
                              IntKind.i64.wrap ((0 : Int) - p1)
                            else if (8 : Int) < p2 then (8 : Int) else p2).toNat -
                          (IntKind.i64.wrap ((0 : Int) - p1)).toNat))
                      (2 : Nat)) <<<
                  (16 : Nat) |||
              BitVec.setWidth (64 : Nat)
                  (laid (fun x => BitVec.ofNat (8 : Nat) (0 : Nat)) (fun i => byteAt p0 i)
                    (if (IntKind.i64.wrap ((0 : Int) - p1)).toNat = (8 : Nat) then (0 : Nat)
                    else (IntKind.i64.wrap ((0 : Int) - p1)).toNat)
                    (min p0.size
                      ((if (if (8 : Int) < p2 then (8 : Int) else p2) < IntKind.i64.wrap ((0 : Int) - p1) then
                            IntKind.i64.wrap ((0 : Int) - p1)
                          else if (8 : Int) < p2 then (8 : Int) else p2).toNat -
                        (IntKind.i64.wrap ((0 : Int) - p1)).toNat))
                    (3 : Nat)) <<<
                (24 : Nat) |||
            BitVec.setWidth (64 : Nat)
                (laid (fun x => BitVec.ofNat (8 : Nat) (0 : Nat)) (fun i => byteAt p0 i)
                  (if (IntKind.i64.wrap ((0 : Int) - p1)).toNat = (8 : Nat) then (0 : Nat)
                  else (IntKind.i64.wrap ((0 : Int) - p1)).toNat)
                  (min p0.size
                    ((if (if (8 : Int) < p2 then (8 : Int) else p2) < IntKind.i64.wrap ((0 : Int) - p1) then
                          IntKind.i64.wrap ((0 : Int) - p1)
                        else if (8 : Int) < p2 then (8 : Int) else p2).toNat -
                      (IntKind.i64.wrap ((0 : Int) - p1)).toNat))
                  (4 : Nat)) <<<
              (32 : Nat) |||
          BitVec.setWidth (64 : Nat)
              (laid (fun x => BitVec.ofNat (8 : Nat) (0 : Nat)) (fun i => byteAt p0 i)
                (if (IntKind.i64.wrap ((0 : Int) - p1)).toNat = (8 : Nat) then (0 : Nat)
                else (IntKind.i64.wrap ((0 : Int) - p1)).toNat)
                (min p0.size
                  ((if (if (8 : Int) < p2 then (8 : Int) else p2) < IntKind.i64.wrap ((0 : Int) - p1) then
                        IntKind.i64.wrap ((0 : Int) - p1)
                      else if (8 : Int) < p2 then (8 : Int) else p2).toNat -
                    (IntKind.i64.wrap ((0 : Int) - p1)).toNat))
                (5 : Nat)) <<<
            (40 : Nat) |||
        BitVec.setWidth (64 : Nat)
            (laid (fun x => BitVec.ofNat (8 : Nat) (0 : Nat)) (fun i => byteAt p0 i)
              (if (IntKind.i64.wrap ((0 : Int) - p1)).toNat = (8 : Nat) then (0 : Nat)
              else (IntKind.i64.wrap ((0 : Int) - p1)).toNat)
              (min p0.size
                ((if (if (8 : Int) < p2 then (8 : Int) else p2) < IntKind.i64.wrap ((0 : Int) - p1) then
                      IntKind.i64.wrap ((0 : Int) - p1)
                    else if (8 : Int) < p2 then (8 : Int) else p2).toNat -
                  (IntKind.i64.wrap ((0 : Int) - p1)).toNat))
              (6 : Nat)) <<<
          (48 : Nat) |||
      BitVec.setWidth (64 : Nat)
          (laid (fun x => BitVec.ofNat (8 : Nat) (0 : Nat)) (fun i => byteAt p0 i)
            (if (IntKind.i64.wrap ((0 : Int) - p1)).toNat = (8 : Nat) then (0 : Nat)
            else (IntKind.i64.wrap ((0 : Int) - p1)).toNat)
            (min p0.size
              ((if (if (8 : Int) < p2 then (8 : Int) else p2) < IntKind.i64.wrap ((0 : Int) - p1) then
                    IntKind.i64.wrap ((0 : Int) - p1)
                  else if (8 : Int) < p2 then (8 : Int) else p2).toNat -
                (IntKind.i64.wrap ((0 : Int) - p1)).toNat))
            (7 : Nat)) <<<
        (56 : Nat)
  else BitVec.ofNat (64 : Nat) (0 : Nat)
def nd_word_Get (p0 : ByteArray) (p1 : Int) (p2 : Int) : Nd := (Nd.prop (decide ((0 : Int) ≤ p1) = true → decide ((0 : Int) ≤ p1) = true)).and
  ((Nd.prop (decide ((0 : Int) ≤ p1) = true → decide ((0 : Int) ≤ p1) = true)).and
    ((Nd.prop (decide ((0 : Int) ≤ p1) = true → decide ((0 : Int) ≤ p1) = true)).and
      ((Nd.prop (decide ((0 : Int) ≤ p1) = true → decide ((0 : Int) ≤ p1) = true)).and
        (Nd.ite (bif decide ((0 : Int) ≤ p1) then decide (p1 < (↑p0.size : Int)) else false)
          ((Nd.prop
                ((0 : Int) ≤ (0 : Int) ∧
                  ((0 : Int) ≤
                      if (8 : Int) < if p2 < (0 : Int) then (0 : Int) else p2 then (8 : Int)
                      else if p2 < (0 : Int) then (0 : Int) else p2) ∧
                    (if (8 : Int) < if p2 < (0 : Int) then (0 : Int) else p2 then (8 : Int)
                      else if p2 < (0 : Int) then (0 : Int) else p2) ≤
                      (8 : Int))).and
            ((Nd.prop ((0 : Int) ≤ p1 ∧ p1 ≤ (↑p0.size : Int) ∧ (↑p0.size : Int) ≤ (↑p0.size : Int))).and
              (Nd.prop
                ((0 : Nat) +
                    min (p0.extract p1.toNat (↑p0.size : Int).toNat).size
                      (if (8 : Int) < if p2 < (0 : Int) then (0 : Int) else p2 then (8 : Int)
                        else if p2 < (0 : Int) then (0 : Int) else p2).toNat ≤
                  (8 : Nat)))))
          ((Nd.prop (decide (p1 < (0 : Int)) = true → decide (p1 < (0 : Int)) = true)).and
            ((Nd.prop (decide (p1 < (0 : Int)) = true → decide (p1 < (0 : Int)) = true)).and
              (Nd.ite (bif decide (p1 < (0 : Int)) then decide ((-8 : Int) < p1) else false)
                ((Nd.prop
                      ((0 : Int) ≤ IntKind.i64.wrap ((0 : Int) - p1) ∧
                        (IntKind.i64.wrap ((0 : Int) - p1) ≤
                            if (if (8 : Int) < p2 then (8 : Int) else p2) < IntKind.i64.wrap ((0 : Int) - p1) then
                              IntKind.i64.wrap ((0 : Int) - p1)
                            else if (8 : Int) < p2 then (8 : Int) else p2) ∧
                          (if (if (8 : Int) < p2 then (8 : Int) else p2) < IntKind.i64.wrap ((0 : Int) - p1) then
                              IntKind.i64.wrap ((0 : Int) - p1)
                            else if (8 : Int) < p2 then (8 : Int) else p2) ≤
                            (8 : Int))).and
                  (Nd.prop
                    ((if (IntKind.i64.wrap ((0 : Int) - p1)).toNat = (8 : Nat) then (0 : Nat)
                        else (IntKind.i64.wrap ((0 : Int) - p1)).toNat) +
                        min p0.size
                          ((if (if (8 : Int) < p2 then (8 : Int) else p2) < IntKind.i64.wrap ((0 : Int) - p1) then
                                IntKind.i64.wrap ((0 : Int) - p1)
                              else if (8 : Int) < p2 then (8 : Int) else p2).toNat -
                            (IntKind.i64.wrap ((0 : Int) - p1)).toNat) ≤
                      (8 : Nat))))
                Nd.yes)))))))
set_option maxHeartbeats 400000 in
theorem ok_insn_Class (p0 : Int) : (nd_insn_Class p0).ok := by
  first
  | (simp [nd_insn_Class, Nd.ok]; done)
  | (simp [nd_insn_Class, Nd.ok]; omega)
  | (simp only [nd_insn_Class, Nd.ok]; simp_all; done)
  | (simp only [nd_insn_Class, Nd.ok]; grind)
  | (simp only [nd_insn_Class, Nd.ok]; simp; intros; simp_all)
set_option maxHeartbeats 400000 in
theorem ok_access_cause (p0 : Int) (p1 : Nat → BitVec 64) : (nd_access_cause p0 p1).ok := by
  first
  | (simp [nd_access_cause, Nd.ok]; done)
  | (simp [nd_access_cause, Nd.ok]; omega)
  | (simp only [nd_access_cause, Nd.ok]; simp_all; done)
  | (simp only [nd_access_cause, Nd.ok]; grind)
  | (simp only [nd_access_cause, Nd.ok]; simp; intros; simp_all)
set_option maxHeartbeats 400000 in
theorem ok_insn_field (p0 : Bool) (p1 : Int) (p2 : Int) : (nd_insn_field p0 p1 p2).ok := by
  first
  | (simp [nd_insn_field, Nd.ok]; done)
  | (simp [nd_insn_field, Nd.ok]; omega)
  | (simp only [nd_insn_field, Nd.ok]; simp_all; done)
  | (simp only [nd_insn_field, Nd.ok]; grind)
  | (simp only [nd_insn_field, Nd.ok]; simp; intros; simp_all)
set_option maxHeartbeats 400000 in
theorem ok_two_faults_fault (p0 : BitVec 64) (p1 : Int) (p2 : Bool) (p3 : BitVec 64) (p4 : Nat → BitVec 64) : (nd_two_faults_fault p0 p1 p2 p3 p4).ok := by
  first
  | (simp [nd_two_faults_fault, Nd.ok]; done)
  | (simp [nd_two_faults_fault, Nd.ok]; omega)
  | (simp only [nd_two_faults_fault, Nd.ok]; simp_all; done)
  | (simp only [nd_two_faults_fault, Nd.ok]; grind)
  | (simp only [nd_two_faults_fault, Nd.ok]; simp; intros; simp_all)
set_option maxHeartbeats 400000 in
theorem ok_pte_Is (p0 : BitVec 64) : (nd_pte_Is p0).ok := by
  first
  | (simp [nd_pte_Is, Nd.ok]; done)
  | (simp [nd_pte_Is, Nd.ok]; omega)
  | (simp only [nd_pte_Is, Nd.ok]; simp_all; done)
  | (simp only [nd_pte_Is, Nd.ok]; grind)
  | (simp only [nd_pte_Is, Nd.ok]; simp; intros; simp_all)
set_option maxHeartbeats 400000 in
theorem ok_mem_check (p0 : BitVec 64) (p1 : Int) : (nd_mem_check p0 p1).ok := by
  first
  | (simp [nd_mem_check, Nd.ok]; done)
  | (simp [nd_mem_check, Nd.ok]; omega)
  | (simp only [nd_mem_check, Nd.ok]; simp_all; done)
  | (simp only [nd_mem_check, Nd.ok]; grind)
  | (simp only [nd_mem_check, Nd.ok]; simp; intros; simp_all)
set_option maxHeartbeats 400000 in
theorem ok_word_Bytes (p0 : BitVec 64) (p1 : Int) : (nd_word_Bytes p0 p1).ok := by
  first
  | (simp [nd_word_Bytes, Nd.ok]; done)
  | (simp [nd_word_Bytes, Nd.ok]; omega)
  | (simp only [nd_word_Bytes, Nd.ok]; simp_all; done)
  | (simp only [nd_word_Bytes, Nd.ok]; grind)
  | (simp only [nd_word_Bytes, Nd.ok]; simp; intros; simp_all)
def F_sallyportref1_Zext : List V → Option (List Prop × SV)
  | [.sc (.u64 s0 p0), .sc (.int .i64 s1 p1)] => some ([], SV.ev (V.sc (SC.u64 (s0 && s1) (m_sallyportref1_Zext_0 p0 p1))))
  | _ => none
def F_insn_Class : List V → Option (List Prop × SV)
  | [.sc (.int .i64 s0 p0)] => some ([], SV.ev (V.sc (SC.int IntKind.i64 (s0) (m_insn_Class_0 p0))))
  | _ => none
def F_insn_Size : List V → Option (List Prop × SV)
  | [.sc (.int .i64 s0 p0)] => some ([], SV.ev (V.sc (SC.int IntKind.i64 (s0) (m_insn_Size_0 p0))))
  | _ => none
def F_access_cause : List V → Option (List Prop × SV)
  | [.sc (.int .i64 s0 p0), .agg [.u64s s1 3 p1]] => some ([], SV.ev (V.sc (SC.u64 (s0 && s1) (m_access_cause_0 p0 p1))))
  | _ => none
def F_insn_field : List V → Option (List Prop × SV)
  | [.sc (.bool s0 p0), .sc (.int .i64 s1 p1), .sc (.int .i64 s2 p2)] => some ([], SV.ev (V.sc (SC.bool (s0 && s1 && s2) (m_insn_field_0 p0 p1 p2))))
  | _ => none
def F_access_sort : List V → Option (List Prop × SV)
  | [.sc (.u64 s0 p0)] => some ([], SV.ev (V.sc (SC.int IntKind.i64 (s0) (m_access_sort_0 p0))))
  | _ => none
def F_word_Sext : List V → Option (List Prop × SV)
  | [.sc (.u64 s0 p0), .sc (.int .i64 s1 p1)] => some ([(nd_word_Sext p0 p1).ok], SV.ev (V.sc (SC.u64 (s0 && s1) (m_word_Sext_0 p0 p1))))
  | _ => none
def F_two_faults_fault : List V → Option (List Prop × SV)
  | [.agg [.one (.u64 s0 p0), .one (.int .i64 s1 p1), .one (.bool s2 p2)], .sc (.u64 s3 p3), .agg [.u64s s4 3 p4]] => some ([], SV.ev
  (V.agg
    [Seg.one (SC.u64 (s0 && s1 && s2 && s3 && s4) (m_two_faults_fault_0 p0 p1 p2 p3 p4)), Seg.one (SC.u64 (s0 && s1 && s2 && s3 && s4) p0),
      Seg.one (SC.u64 (s0 && s1 && s2 && s3 && s4) (m_two_faults_fault_1 p0 p1 p2 p3 p4)), Seg.one (SC.bool (s0 && s1 && s2 && s3 && s4) p2)]))
  | _ => none
def F_insn_jumps : List V → Option (List Prop × SV)
  | [.sc (.int .i64 s0 p0)] => some ([], SV.ev
  (V.agg
    [Seg.one (SC.bool (s0) (m_insn_jumps_0 p0)), Seg.one (SC.bool (s0) (m_insn_jumps_1 p0)),
      Seg.one (SC.bool (s0) (m_insn_jumps_2 p0)), Seg.one (SC.bool (s0) (m_insn_jumps_3 p0)),
      Seg.one (SC.int IntKind.i64 (s0) (m_insn_jumps_4 p0)), Seg.one (SC.int IntKind.i64 (s0) (m_insn_jumps_5 p0)),
      Seg.one (SC.int IntKind.i64 (s0) (m_insn_jumps_6 p0))]))
  | _ => none
def F_insn_withNumber : List V → Option (List Prop × SV)
  | [.sc (.int .i64 s0 p0)] => some ([], SV.ev
  (V.agg
    [Seg.one (SC.bool (s0) (m_insn_withNumber_0 p0)), Seg.one (SC.bool (s0) (m_insn_withNumber_1 p0)),
      Seg.one (SC.bool (s0) (m_insn_withNumber_2 p0)), Seg.one (SC.bool (s0) (m_insn_withNumber_3 p0)),
      Seg.one (SC.int IntKind.i64 (s0) (m_insn_withNumber_4 p0)),
      Seg.one (SC.int IntKind.i64 (s0) (m_insn_withNumber_5 p0)),
      Seg.one (SC.int IntKind.i64 (s0) (m_insn_withNumber_6 p0))]))
  | _ => none
def F_word_part : List V → Option (List Prop × SV)
  | [.sc (.int .i64 s0 p0), .sc (.int .i64 s1 p1)] => some ([], SV.tup [V.sc (SC.int IntKind.i64 (s0 && s1) (m_word_part_0 p0 p1)), V.sc (SC.int IntKind.i64 (s0 && s1) (m_word_part_1 p0 p1))])
  | _ => none
def F_word_mask : List V → Option (List Prop × SV)
  | [.sc (.int .i64 s0 p0)] => some ([(nd_word_mask p0).ok], SV.ev (V.sc (SC.u64 (s0) (m_word_mask_0 p0))))
  | _ => none
def F_pte_Is : List V → Option (List Prop × SV)
  | [.sc (.u64 s0 p0)] => some ([], SV.ev (V.sc (SC.bool (s0) (m_pte_Is_0 p0))))
  | _ => none
def F_mem_check : List V → Option (List Prop × SV)
  | [.sc (.u64 s0 p0), .sc (.int .i64 s1 p1)] => some ([], SV.ev (V.sc (SC.int IntKind.i64 (s0 && s1) (m_mem_check_0 p0 p1))))
  | _ => none
def F_word_Bytes : List V → Option (List Prop × SV)
  | [.sc (.u64 s0 p0), .sc (.int .i64 s1 p1)] => some ([], SV.ev (V.sc (SC.str (s0 && s1) (m_word_Bytes_0 p0 p1))))
  | _ => none
def F_word_Get : List V → Option (List Prop × SV)
  | [.sc (.str s0 p0), .sc (.int .i64 s1 p1), .sc (.int .i64 s2 p2)] => some ([(nd_word_Get p0 p1 p2).ok], SV.ev (V.sc (SC.u64 (s0 && s1 && s2) (m_word_Get_0 p0 p1 p2))))
  | _ => none
end Go.X.M

set_option maxRecDepth 100000
set_option linter.all false
set_option maxHeartbeats 4000000
namespace Go.X.M
open Go Go.X
def m_access_Bad_0 (p0 : BitVec 64) (p1 : Int) (p2 : Bool) : BitVec (64 : Nat) := m_access_cause_0 p1
  (upd
    (upd (upd (fun x => BitVec.ofNat (64 : Nat) (0 : Nat)) (0 : Nat) (BitVec.ofNat (64 : Nat) (1 : Nat))) (1 : Nat)
      (BitVec.ofNat (64 : Nat) (5 : Nat)))
    (2 : Nat) (BitVec.ofNat (64 : Nat) (7 : Nat)))
def m_access_Bad_1 (p0 : BitVec 64) (p1 : Int) (p2 : Bool) : BitVec (64 : Nat) := BitVec.ofNat (64 : Nat) (0 : Nat)
def nd_access_Bad (p0 : BitVec 64) (p1 : Int) (p2 : Bool) : Nd := Nd.yes
def m_two_faults_page_0 (p0 : BitVec 64) (p1 : Int) (p2 : Bool) : BitVec (64 : Nat) := m_two_faults_fault_0 p0 p1 p2 (BitVec.ofNat (64 : Nat) (0 : Nat))
  (upd
    (upd (upd (fun x => BitVec.ofNat (64 : Nat) (0 : Nat)) (0 : Nat) (BitVec.ofNat (64 : Nat) (12 : Nat))) (1 : Nat)
      (BitVec.ofNat (64 : Nat) (13 : Nat)))
    (2 : Nat) (BitVec.ofNat (64 : Nat) (15 : Nat)))
def m_two_faults_page_1 (p0 : BitVec 64) (p1 : Int) (p2 : Bool) : BitVec (64 : Nat) := m_two_faults_fault_1 p0 p1 p2 (BitVec.ofNat (64 : Nat) (0 : Nat))
  (upd
    (upd (upd (fun x => BitVec.ofNat (64 : Nat) (0 : Nat)) (0 : Nat) (BitVec.ofNat (64 : Nat) (12 : Nat))) (1 : Nat)
      (BitVec.ofNat (64 : Nat) (13 : Nat)))
    (2 : Nat) (BitVec.ofNat (64 : Nat) (15 : Nat)))
def nd_two_faults_page (p0 : BitVec 64) (p1 : Int) (p2 : Bool) : Nd := Nd.yes
def m_two_faults_guest_0 (p0 : BitVec 64) (p1 : Int) (p2 : Bool) (p3 : BitVec 64) : BitVec (64 : Nat) := m_two_faults_fault_0 p0 p1 p2 p3
  (upd
    (upd (upd (fun x => BitVec.ofNat (64 : Nat) (0 : Nat)) (0 : Nat) (BitVec.ofNat (64 : Nat) (20 : Nat))) (1 : Nat)
      (BitVec.ofNat (64 : Nat) (21 : Nat)))
    (2 : Nat) (BitVec.ofNat (64 : Nat) (23 : Nat)))
def m_two_faults_guest_1 (p0 : BitVec 64) (p1 : Int) (p2 : Bool) (p3 : BitVec 64) : BitVec (64 : Nat) := m_two_faults_fault_1 p0 p1 p2 p3
  (upd
    (upd (upd (fun x => BitVec.ofNat (64 : Nat) (0 : Nat)) (0 : Nat) (BitVec.ofNat (64 : Nat) (20 : Nat))) (1 : Nat)
      (BitVec.ofNat (64 : Nat) (21 : Nat)))
    (2 : Nat) (BitVec.ofNat (64 : Nat) (23 : Nat)))
def nd_two_faults_guest (p0 : BitVec 64) (p1 : Int) (p2 : Bool) (p3 : BitVec 64) : Nd := Nd.yes
def m_insn_Of_0 (p0 : Int) : Bool := if decide (m_insn_Class_0 p0 = (1 : Int)) = true then m_insn_jumps_0 p0
else
  if decide (m_insn_Class_0 p0 = (2 : Int)) = true then false
  else
    if decide (m_insn_Class_0 p0 = (3 : Int)) = true then true
    else
      if decide (m_insn_Class_0 p0 = (4 : Int)) = true then false
      else
        if decide (m_insn_Class_0 p0 = (5 : Int)) = true then m_insn_withNumber_0 p0
        else
          if decide (m_insn_Class_0 p0 = (6 : Int)) = true then true
          else
            if decide (m_insn_Class_0 p0 = (9 : Int)) = true then if decide ((57 : Int) ≤ p0) = true then true else true
            else
              if decide (m_insn_Class_0 p0 = (11 : Int)) = true then false
              else
                if decide (m_insn_Class_0 p0 = (12 : Int)) = true then
                  if decide (p0 = (69 : Int)) = true then false else true
                else false
def m_insn_Of_1 (p0 : Int) : Bool := if decide (m_insn_Class_0 p0 = (1 : Int)) = true then m_insn_jumps_1 p0
else
  if decide (m_insn_Class_0 p0 = (2 : Int)) = true then false
  else
    if decide (m_insn_Class_0 p0 = (3 : Int)) = true then false
    else
      if decide (m_insn_Class_0 p0 = (4 : Int)) = true then false
      else
        if decide (m_insn_Class_0 p0 = (5 : Int)) = true then m_insn_withNumber_1 p0
        else
          if decide (m_insn_Class_0 p0 = (6 : Int)) = true then false
          else
            if decide (m_insn_Class_0 p0 = (9 : Int)) = true then if decide ((57 : Int) ≤ p0) = true then true else true
            else
              if decide (m_insn_Class_0 p0 = (11 : Int)) = true then false
              else
                if decide (m_insn_Class_0 p0 = (12 : Int)) = true then
                  if decide (p0 = (69 : Int)) = true then false else false
                else false
def m_insn_Of_2 (p0 : Int) : Bool := if decide (m_insn_Class_0 p0 = (1 : Int)) = true then m_insn_jumps_2 p0
else
  if decide (m_insn_Class_0 p0 = (2 : Int)) = true then true
  else
    if decide (m_insn_Class_0 p0 = (3 : Int)) = true then true
    else
      if decide (m_insn_Class_0 p0 = (4 : Int)) = true then true
      else
        if decide (m_insn_Class_0 p0 = (5 : Int)) = true then m_insn_withNumber_2 p0
        else
          if decide (m_insn_Class_0 p0 = (6 : Int)) = true then true
          else
            if decide (m_insn_Class_0 p0 = (9 : Int)) = true then
              if decide ((57 : Int) ≤ p0) = true then false else true
            else
              if decide (m_insn_Class_0 p0 = (11 : Int)) = true then true
              else
                if decide (m_insn_Class_0 p0 = (12 : Int)) = true then
                  if decide (p0 = (69 : Int)) = true then true else true
                else false
def m_insn_Of_3 (p0 : Int) : Bool := if decide (m_insn_Class_0 p0 = (1 : Int)) = true then m_insn_jumps_3 p0
else
  if decide (m_insn_Class_0 p0 = (2 : Int)) = true then true
  else
    if decide (m_insn_Class_0 p0 = (3 : Int)) = true then false
    else
      if decide (m_insn_Class_0 p0 = (4 : Int)) = true then true
      else
        if decide (m_insn_Class_0 p0 = (5 : Int)) = true then m_insn_withNumber_3 p0
        else
          if decide (m_insn_Class_0 p0 = (6 : Int)) = true then true
          else
            if decide (m_insn_Class_0 p0 = (9 : Int)) = true then
              if decide ((57 : Int) ≤ p0) = true then false else false
            else
              if decide (m_insn_Class_0 p0 = (11 : Int)) = true then true
              else
                if decide (m_insn_Class_0 p0 = (12 : Int)) = true then
                  if decide (p0 = (69 : Int)) = true then true else false
                else false
def m_insn_Of_4 (p0 : Int) : Int := if decide (m_insn_Class_0 p0 = (1 : Int)) = true then m_insn_jumps_4 p0
else
  if decide (m_insn_Class_0 p0 = (2 : Int)) = true then (-4096 : Int)
  else
    if decide (m_insn_Class_0 p0 = (3 : Int)) = true then (-2048 : Int)
    else
      if decide (m_insn_Class_0 p0 = (4 : Int)) = true then (-2048 : Int)
      else
        if decide (m_insn_Class_0 p0 = (5 : Int)) = true then m_insn_withNumber_4 p0
        else
          if decide (m_insn_Class_0 p0 = (6 : Int)) = true then (0 : Int)
          else
            if decide (m_insn_Class_0 p0 = (9 : Int)) = true then
              if decide ((57 : Int) ≤ p0) = true then (0 : Int) else (0 : Int)
            else
              if decide (m_insn_Class_0 p0 = (11 : Int)) = true then (0 : Int)
              else
                if decide (m_insn_Class_0 p0 = (12 : Int)) = true then
                  if decide (p0 = (69 : Int)) = true then (0 : Int) else (0 : Int)
                else (0 : Int)
def m_insn_Of_5 (p0 : Int) : Int := if decide (m_insn_Class_0 p0 = (1 : Int)) = true then m_insn_jumps_5 p0
else
  if decide (m_insn_Class_0 p0 = (2 : Int)) = true then (4094 : Int)
  else
    if decide (m_insn_Class_0 p0 = (3 : Int)) = true then (2047 : Int)
    else
      if decide (m_insn_Class_0 p0 = (4 : Int)) = true then (2047 : Int)
      else
        if decide (m_insn_Class_0 p0 = (5 : Int)) = true then m_insn_withNumber_5 p0
        else
          if decide (m_insn_Class_0 p0 = (6 : Int)) = true then (0 : Int)
          else
            if decide (m_insn_Class_0 p0 = (9 : Int)) = true then
              if decide ((57 : Int) ≤ p0) = true then (31 : Int) else (0 : Int)
            else
              if decide (m_insn_Class_0 p0 = (11 : Int)) = true then (0 : Int)
              else
                if decide (m_insn_Class_0 p0 = (12 : Int)) = true then
                  if decide (p0 = (69 : Int)) = true then (0 : Int) else (0 : Int)
                else (0 : Int)
def m_insn_Of_6 (p0 : Int) : Int := if decide (m_insn_Class_0 p0 = (1 : Int)) = true then m_insn_jumps_6 p0
else
  if decide (m_insn_Class_0 p0 = (2 : Int)) = true then (2 : Int)
  else
    if decide (m_insn_Class_0 p0 = (3 : Int)) = true then (1 : Int)
    else
      if decide (m_insn_Class_0 p0 = (4 : Int)) = true then (1 : Int)
      else
        if decide (m_insn_Class_0 p0 = (5 : Int)) = true then m_insn_withNumber_6 p0
        else
          if decide (m_insn_Class_0 p0 = (6 : Int)) = true then (0 : Int)
          else
            if decide (m_insn_Class_0 p0 = (9 : Int)) = true then
              if decide ((57 : Int) ≤ p0) = true then (1 : Int) else (0 : Int)
            else
              if decide (m_insn_Class_0 p0 = (11 : Int)) = true then (0 : Int)
              else
                if decide (m_insn_Class_0 p0 = (12 : Int)) = true then
                  if decide (p0 = (69 : Int)) = true then (0 : Int) else (0 : Int)
                else (0 : Int)
def nd_insn_Of (p0 : Int) : Nd := Nd.yes
def m_word_Bits_0 (p0 : BitVec 64) (p1 : Int) (p2 : Int) : BitVec (64 : Nat) := p0 >>> min (m_word_part_0 p1 p2).toNat (64 : Nat) &&& m_word_mask_0 (m_word_part_1 p1 p2)
def nd_word_Bits (p0 : BitVec 64) (p1 : Int) (p2 : Int) : Nd := (Nd.prop ((0 : Int) ≤ m_word_part_0 p1 p2)).and (Nd.prop (nd_word_mask (m_word_part_1 p1 p2)).ok)
def m_word_Zext_0 (p0 : BitVec 64) (p1 : Int) : BitVec (64 : Nat) := p0 &&&
  m_word_mask_0
    (if (64 : Int) < if p1 < (1 : Int) then (1 : Int) else p1 then (64 : Int)
    else if p1 < (1 : Int) then (1 : Int) else p1)
def nd_word_Zext (p0 : BitVec 64) (p1 : Int) : Nd := Nd.prop
  (nd_word_mask
      (if (64 : Int) < if p1 < (1 : Int) then (1 : Int) else p1 then (64 : Int)
      else if p1 < (1 : Int) then (1 : Int) else p1)).ok
def m_two_faults_access_0 (p0 : BitVec 64) (p1 : Int) (p2 : Bool) : BitVec (64 : Nat) := m_two_faults_fault_0 p0 p1 p2 (BitVec.ofNat (64 : Nat) (0 : Nat))
  (upd
    (upd (upd (fun x => BitVec.ofNat (64 : Nat) (0 : Nat)) (0 : Nat) (BitVec.ofNat (64 : Nat) (1 : Nat))) (1 : Nat)
      (BitVec.ofNat (64 : Nat) (5 : Nat)))
    (2 : Nat) (BitVec.ofNat (64 : Nat) (7 : Nat)))
def m_two_faults_access_1 (p0 : BitVec 64) (p1 : Int) (p2 : Bool) : BitVec (64 : Nat) := m_two_faults_fault_1 p0 p1 p2 (BitVec.ofNat (64 : Nat) (0 : Nat))
  (upd
    (upd (upd (fun x => BitVec.ofNat (64 : Nat) (0 : Nat)) (0 : Nat) (BitVec.ofNat (64 : Nat) (1 : Nat))) (1 : Nat)
      (BitVec.ofNat (64 : Nat) (5 : Nat)))
    (2 : Nat) (BitVec.ofNat (64 : Nat) (7 : Nat)))
def nd_two_faults_access (p0 : BitVec 64) (p1 : Int) (p2 : Bool) : Nd := Nd.yes
def m_pte_Leaf_0 (p0 : BitVec 64) : Bool := bif m_pte_Is_0 p0 then !p0 &&& BitVec.ofNat (64 : Nat) (10 : Nat) == BitVec.ofNat (64 : Nat) (0 : Nat) else false
def nd_pte_Leaf (p0 : BitVec 64) : Nd := (Nd.prop (m_pte_Is_0 p0 = true → m_pte_Is_0 p0 = true)).and
  ((Nd.prop (m_pte_Is_0 p0 = true → m_pte_Is_0 p0 = true)).and (Nd.prop (m_pte_Is_0 p0 = true → m_pte_Is_0 p0 = true)))
def m_word_Set_0 (p0 : BitVec 64) (p1 : Int) (p2 : Int) (p3 : BitVec 64) : BitVec (64 : Nat) := p0 &&& ~~~(m_word_mask_0 (m_word_part_1 p1 p2) <<< min (m_word_part_0 p1 p2).toNat (64 : Nat)) |||
  (p3 &&& m_word_mask_0 (m_word_part_1 p1 p2)) <<< min (m_word_part_0 p1 p2).toNat (64 : Nat)
def nd_word_Set (p0 : BitVec 64) (p1 : Int) (p2 : Int) (p3 : BitVec 64) : Nd := (Nd.prop (nd_word_mask (m_word_part_1 p1 p2)).ok).and
  ((Nd.prop ((0 : Int) ≤ m_word_part_0 p1 p2)).and
    ((Nd.prop (nd_word_mask (m_word_part_1 p1 p2)).ok).and (Nd.prop ((0 : Int) ≤ m_word_part_0 p1 p2))))
set_option maxHeartbeats 400000 in
theorem ok_pte_Leaf (p0 : BitVec 64) : (nd_pte_Leaf p0).ok := by
  first
  | (simp [nd_pte_Leaf, Nd.ok]; done)
  | (simp [nd_pte_Leaf, Nd.ok]; omega)
  | (simp only [nd_pte_Leaf, Nd.ok]; simp_all; done)
  | (simp only [nd_pte_Leaf, Nd.ok]; grind)
  | (simp only [nd_pte_Leaf, Nd.ok]; simp; intros; simp_all)
def F_access_Bad : List V → Option (List Prop × SV)
  | [.sc (.u64 s0 p0), .sc (.int .i64 s1 p1), .sc (.bool s2 p2)] => some ([], SV.ev
  (V.agg
    [Seg.one (SC.u64 (s0 && s1 && s2) (m_access_Bad_0 p0 p1 p2)), Seg.one (SC.u64 (s0 && s1 && s2) p0), Seg.one (SC.u64 (s0 && s1 && s2) (m_access_Bad_1 p0 p1 p2)),
      Seg.one (SC.bool (s0 && s1 && s2) p2)]))
  | _ => none
def F_two_faults_page : List V → Option (List Prop × SV)
  | [.agg [.one (.u64 s0 p0), .one (.int .i64 s1 p1), .one (.bool s2 p2)]] => some ([], SV.ev
  (V.agg
    [Seg.one (SC.u64 (s0 && s1 && s2) (m_two_faults_page_0 p0 p1 p2)), Seg.one (SC.u64 (s0 && s1 && s2) p0),
      Seg.one (SC.u64 (s0 && s1 && s2) (m_two_faults_page_1 p0 p1 p2)), Seg.one (SC.bool (s0 && s1 && s2) p2)]))
  | _ => none
def F_two_faults_guest : List V → Option (List Prop × SV)
  | [.agg [.one (.u64 s0 p0), .one (.int .i64 s1 p1), .one (.bool s2 p2)], .sc (.u64 s3 p3)] => some ([], SV.ev
  (V.agg
    [Seg.one (SC.u64 (s0 && s1 && s2 && s3) (m_two_faults_guest_0 p0 p1 p2 p3)), Seg.one (SC.u64 (s0 && s1 && s2 && s3) p0),
      Seg.one (SC.u64 (s0 && s1 && s2 && s3) (m_two_faults_guest_1 p0 p1 p2 p3)), Seg.one (SC.bool (s0 && s1 && s2 && s3) p2)]))
  | _ => none
def F_insn_Of : List V → Option (List Prop × SV)
  | [.sc (.int .i64 s0 p0)] => some ([], SV.ev
  (V.agg
    [Seg.one (SC.bool (s0) (m_insn_Of_0 p0)), Seg.one (SC.bool (s0) (m_insn_Of_1 p0)),
      Seg.one (SC.bool (s0) (m_insn_Of_2 p0)), Seg.one (SC.bool (s0) (m_insn_Of_3 p0)),
      Seg.one (SC.int IntKind.i64 (s0) (m_insn_Of_4 p0)), Seg.one (SC.int IntKind.i64 (s0) (m_insn_Of_5 p0)),
      Seg.one (SC.int IntKind.i64 (s0) (m_insn_Of_6 p0))]))
  | _ => none
def F_word_Bits : List V → Option (List Prop × SV)
  | [.sc (.u64 s0 p0), .sc (.int .i64 s1 p1), .sc (.int .i64 s2 p2)] => some ([(nd_word_Bits p0 p1 p2).ok], SV.ev (V.sc (SC.u64 (s0 && s1 && s2) (m_word_Bits_0 p0 p1 p2))))
  | _ => none
def F_word_Zext : List V → Option (List Prop × SV)
  | [.sc (.u64 s0 p0), .sc (.int .i64 s1 p1)] => some ([(nd_word_Zext p0 p1).ok], SV.ev (V.sc (SC.u64 (s0 && s1) (m_word_Zext_0 p0 p1))))
  | _ => none
def F_two_faults_access : List V → Option (List Prop × SV)
  | [.agg [.one (.u64 s0 p0), .one (.int .i64 s1 p1), .one (.bool s2 p2)]] => some ([], SV.ev
  (V.agg
    [Seg.one (SC.u64 (s0 && s1 && s2) (m_two_faults_access_0 p0 p1 p2)), Seg.one (SC.u64 (s0 && s1 && s2) p0),
      Seg.one (SC.u64 (s0 && s1 && s2) (m_two_faults_access_1 p0 p1 p2)), Seg.one (SC.bool (s0 && s1 && s2) p2)]))
  | _ => none
def F_pte_Leaf : List V → Option (List Prop × SV)
  | [.sc (.u64 s0 p0)] => some ([], SV.ev (V.sc (SC.bool (s0) (m_pte_Leaf_0 p0))))
  | _ => none
def F_word_Set : List V → Option (List Prop × SV)
  | [.sc (.u64 s0 p0), .sc (.int .i64 s1 p1), .sc (.int .i64 s2 p2), .sc (.u64 s3 p3)] => some ([(nd_word_Set p0 p1 p2 p3).ok], SV.ev (V.sc (SC.u64 (s0 && s1 && s2 && s3) (m_word_Set_0 p0 p1 p2 p3))))
  | _ => none
end Go.X.M

set_option maxRecDepth 100000
set_option linter.all false
set_option maxHeartbeats 4000000
namespace Go.X.M
open Go Go.X
def m_access_Aligned_0 (p0 : BitVec 64) (p1 : Int) (p2 : Int) (p3 : Bool) : BitVec (64 : Nat) := if
    (bif
          bif bif !decide (p1 = (1 : Int)) then !decide (p1 = (2 : Int)) else false then !decide (p1 = (4 : Int))
          else false then
        !decide (p1 = (8 : Int))
      else false) =
      true then
  m_access_Bad_0 p0 p2 p3
else
  if (!p0 % BitVec.ofInt (64 : Nat) p1 == BitVec.ofNat (64 : Nat) (0 : Nat)) = true then
    m_access_cause_0 p2
      (upd
        (upd (upd (fun x => BitVec.ofNat (64 : Nat) (0 : Nat)) (0 : Nat) (BitVec.ofNat (64 : Nat) (0 : Nat))) (1 : Nat)
          (BitVec.ofNat (64 : Nat) (4 : Nat)))
        (2 : Nat) (BitVec.ofNat (64 : Nat) (6 : Nat)))
  else BitVec.ofNat (64 : Nat) (0 : Nat)
def m_access_Aligned_1 (p0 : BitVec 64) (p1 : Int) (p2 : Int) (p3 : Bool) : BitVec (64 : Nat) := if
    (bif
          bif bif !decide (p1 = (1 : Int)) then !decide (p1 = (2 : Int)) else false then !decide (p1 = (4 : Int))
          else false then
        !decide (p1 = (8 : Int))
      else false) =
      true then
  p0
else
  if (!p0 % BitVec.ofInt (64 : Nat) p1 == BitVec.ofNat (64 : Nat) (0 : Nat)) = true then p0
  else BitVec.ofNat (64 : Nat) (0 : Nat)
def m_access_Aligned_2 (p0 : BitVec 64) (p1 : Int) (p2 : Int) (p3 : Bool) : BitVec (64 : Nat) := if
    (bif
          bif bif !decide (p1 = (1 : Int)) then !decide (p1 = (2 : Int)) else false then !decide (p1 = (4 : Int))
          else false then
        !decide (p1 = (8 : Int))
      else false) =
      true then
  m_access_Bad_1 p0 p2 p3
else
  if (!p0 % BitVec.ofInt (64 : Nat) p1 == BitVec.ofNat (64 : Nat) (0 : Nat)) = true then
    BitVec.ofNat (64 : Nat) (0 : Nat)
  else BitVec.ofNat (64 : Nat) (0 : Nat)
def m_access_Aligned_3 (p0 : BitVec 64) (p1 : Int) (p2 : Int) (p3 : Bool) : Bool := if
    (bif
          bif bif !decide (p1 = (1 : Int)) then !decide (p1 = (2 : Int)) else false then !decide (p1 = (4 : Int))
          else false then
        !decide (p1 = (8 : Int))
      else false) =
      true then
  p3
else if (!p0 % BitVec.ofInt (64 : Nat) p1 == BitVec.ofNat (64 : Nat) (0 : Nat)) = true then p3 else false
def m_access_Aligned_4 (p0 : BitVec 64) (p1 : Int) (p2 : Int) (p3 : Bool) : Bool := if
    (bif
          bif bif !decide (p1 = (1 : Int)) then !decide (p1 = (2 : Int)) else false then !decide (p1 = (4 : Int))
          else false then
        !decide (p1 = (8 : Int))
      else false) =
      true then
  false
else if (!p0 % BitVec.ofInt (64 : Nat) p1 == BitVec.ofNat (64 : Nat) (0 : Nat)) = true then false else true
def nd_access_Aligned (p0 : BitVec 64) (p1 : Int) (p2 : Int) (p3 : Bool) : Nd := (Nd.prop ((!decide (p1 = (1 : Int))) = true → (!decide (p1 = (1 : Int))) = true)).and
  ((Nd.prop ((!decide (p1 = (1 : Int))) = true → (!decide (p1 = (1 : Int))) = true)).and
    ((Nd.prop
          ((bif !decide (p1 = (1 : Int)) then !decide (p1 = (2 : Int)) else false) = true →
            (bif !decide (p1 = (1 : Int)) then !decide (p1 = (2 : Int)) else false) = true)).and
      ((Nd.prop
            ((bif !decide (p1 = (1 : Int)) then !decide (p1 = (2 : Int)) else false) = true →
              (bif !decide (p1 = (1 : Int)) then !decide (p1 = (2 : Int)) else false) = true)).and
        ((Nd.prop
              ((bif bif !decide (p1 = (1 : Int)) then !decide (p1 = (2 : Int)) else false then !decide (p1 = (4 : Int))
                  else false) =
                  true →
                (bif bif !decide (p1 = (1 : Int)) then !decide (p1 = (2 : Int)) else false then !decide (p1 = (4 : Int))
                  else false) =
                  true)).and
          ((Nd.prop
                ((bif bif !decide (p1 = (1 : Int)) then !decide (p1 = (2 : Int)) else false then
                      !decide (p1 = (4 : Int))
                    else false) =
                    true →
                  (bif bif !decide (p1 = (1 : Int)) then !decide (p1 = (2 : Int)) else false then
                      !decide (p1 = (4 : Int))
                    else false) =
                    true)).and
            (Nd.ite
              (bif
                  bif bif !decide (p1 = (1 : Int)) then !decide (p1 = (2 : Int)) else false then
                    !decide (p1 = (4 : Int))
                  else false then
                !decide (p1 = (8 : Int))
              else false)
              Nd.yes (Nd.prop (BitVec.ofInt (64 : Nat) p1 ≠ BitVec.ofNat (64 : Nat) (0 : Nat)))))))))
def m_insn_Is_0 (p0 : Int) (p1 : Int) (p2 : Int) (p3 : Int) (p4 : Int) (p5 : Int) : Bool := if decide (m_insn_Class_0 p0 = (0 : Int)) = true then false
else
  if
      (bif bif decide (m_insn_Of_6 p0 = (0 : Int)) then !decide (p4 = (0 : Int)) else false then true
        else
          bif decide ((0 : Int) < m_insn_Of_6 p0) then
            bif bif decide (p4 < m_insn_Of_4 p0) then true else decide (m_insn_Of_5 p0 < p4) then true
            else !decide (p4.tmod (m_insn_Of_6 p0) = (0 : Int))
          else false) =
        true then
    false
  else
    bif
        bif
            bif m_insn_field_0 (m_insn_Of_0 p0) p1 (32 : Int) then m_insn_field_0 (m_insn_Of_2 p0) p2 (32 : Int)
            else false then
          m_insn_field_0 (m_insn_Of_3 p0) p3 (32 : Int)
        else false then
      m_insn_field_0 (m_insn_Of_1 p0) p5 (4096 : Int)
    else false
def nd_insn_Is (p0 : Int) (p1 : Int) (p2 : Int) (p3 : Int) (p4 : Int) (p5 : Int) : Nd := Nd.ite (decide (m_insn_Class_0 p0 = (0 : Int))) Nd.yes
  ((Nd.prop (decide (m_insn_Of_6 p0 = (0 : Int)) = true → decide (m_insn_Of_6 p0 = (0 : Int)) = true)).and
    ((Nd.prop (decide (m_insn_Of_6 p0 = (0 : Int)) = true → decide (m_insn_Of_6 p0 = (0 : Int)) = true)).and
      ((Nd.prop (decide (m_insn_Of_6 p0 = (0 : Int)) = true → decide (m_insn_Of_6 p0 = (0 : Int)) = true)).and
        ((Nd.prop
              ((!bif decide (m_insn_Of_6 p0 = (0 : Int)) then !decide (p4 = (0 : Int)) else false) = true →
                (!bif decide (m_insn_Of_6 p0 = (0 : Int)) then !decide (p4 = (0 : Int)) else false) = true)).and
          ((Nd.prop
                ((!bif decide (m_insn_Of_6 p0 = (0 : Int)) then !decide (p4 = (0 : Int)) else false) = true →
                  (!bif decide (m_insn_Of_6 p0 = (0 : Int)) then !decide (p4 = (0 : Int)) else false) = true)).and
            ((Nd.prop
                  ((!bif decide (m_insn_Of_6 p0 = (0 : Int)) then !decide (p4 = (0 : Int)) else false) = true →
                    (!bif decide (m_insn_Of_6 p0 = (0 : Int)) then !decide (p4 = (0 : Int)) else false) = true)).and
              ((Nd.prop
                    (((!bif decide (m_insn_Of_6 p0 = (0 : Int)) then !decide (p4 = (0 : Int)) else false) &&
                          decide ((0 : Int) < m_insn_Of_6 p0)) =
                        true →
                      ((!bif decide (m_insn_Of_6 p0 = (0 : Int)) then !decide (p4 = (0 : Int)) else false) &&
                          decide ((0 : Int) < m_insn_Of_6 p0)) =
                        true)).and
                ((Nd.prop
                      (((!bif decide (m_insn_Of_6 p0 = (0 : Int)) then !decide (p4 = (0 : Int)) else false) &&
                            decide ((0 : Int) < m_insn_Of_6 p0)) =
                          true →
                        ((!bif decide (m_insn_Of_6 p0 = (0 : Int)) then !decide (p4 = (0 : Int)) else false) &&
                            decide ((0 : Int) < m_insn_Of_6 p0)) =
                          true)).and
                  ((Nd.prop
                        (((!bif decide (m_insn_Of_6 p0 = (0 : Int)) then !decide (p4 = (0 : Int)) else false) &&
                              decide ((0 : Int) < m_insn_Of_6 p0)) =
                            true →
                          ((!bif decide (m_insn_Of_6 p0 = (0 : Int)) then !decide (p4 = (0 : Int)) else false) &&
                              decide ((0 : Int) < m_insn_Of_6 p0)) =
                            true)).and
                    ((Nd.prop
                          (((!bif decide (m_insn_Of_6 p0 = (0 : Int)) then !decide (p4 = (0 : Int)) else false) &&
                                decide ((0 : Int) < m_insn_Of_6 p0)) =
                              true →
                            ((!bif decide (m_insn_Of_6 p0 = (0 : Int)) then !decide (p4 = (0 : Int)) else false) &&
                                decide ((0 : Int) < m_insn_Of_6 p0)) =
                              true)).and
                      ((Nd.prop
                            (((!bif decide (m_insn_Of_6 p0 = (0 : Int)) then !decide (p4 = (0 : Int)) else false) &&
                                  decide ((0 : Int) < m_insn_Of_6 p0)) =
                                true →
                              ((!bif decide (m_insn_Of_6 p0 = (0 : Int)) then !decide (p4 = (0 : Int)) else false) &&
                                  decide ((0 : Int) < m_insn_Of_6 p0)) =
                                true)).and
                        ((Nd.prop
                              (((!bif decide (m_insn_Of_6 p0 = (0 : Int)) then !decide (p4 = (0 : Int)) else false) &&
                                      decide ((0 : Int) < m_insn_Of_6 p0) &&
                                    !decide (p4 < m_insn_Of_4 p0)) =
                                  true →
                                ((!bif decide (m_insn_Of_6 p0 = (0 : Int)) then !decide (p4 = (0 : Int)) else false) &&
                                      decide ((0 : Int) < m_insn_Of_6 p0) &&
                                    !decide (p4 < m_insn_Of_4 p0)) =
                                  true)).and
                          ((Nd.prop
                                (((!bif decide (m_insn_Of_6 p0 = (0 : Int)) then !decide (p4 = (0 : Int)) else false) &&
                                        decide ((0 : Int) < m_insn_Of_6 p0) &&
                                      !decide (p4 < m_insn_Of_4 p0)) =
                                    true →
                                  ((!bif decide (m_insn_Of_6 p0 = (0 : Int)) then !decide (p4 = (0 : Int))
                                          else false) &&
                                        decide ((0 : Int) < m_insn_Of_6 p0) &&
                                      !decide (p4 < m_insn_Of_4 p0)) =
                                    true)).and
                            ((Nd.prop
                                  (((!bif decide (m_insn_Of_6 p0 = (0 : Int)) then !decide (p4 = (0 : Int))
                                            else false) &&
                                          decide ((0 : Int) < m_insn_Of_6 p0) &&
                                        !decide (p4 < m_insn_Of_4 p0)) =
                                      true →
                                    ((!bif decide (m_insn_Of_6 p0 = (0 : Int)) then !decide (p4 = (0 : Int))
                                            else false) &&
                                          decide ((0 : Int) < m_insn_Of_6 p0) &&
                                        !decide (p4 < m_insn_Of_4 p0)) =
                                      true)).and
                              ((Nd.prop
                                    (((!bif decide (m_insn_Of_6 p0 = (0 : Int)) then !decide (p4 = (0 : Int))
                                              else false) &&
                                            decide ((0 : Int) < m_insn_Of_6 p0) &&
                                          !decide (p4 < m_insn_Of_4 p0)) =
                                        true →
                                      ((!bif decide (m_insn_Of_6 p0 = (0 : Int)) then !decide (p4 = (0 : Int))
                                              else false) &&
                                            decide ((0 : Int) < m_insn_Of_6 p0) &&
                                          !decide (p4 < m_insn_Of_4 p0)) =
                                        true)).and
                                ((Nd.prop
                                      (((!bif decide (m_insn_Of_6 p0 = (0 : Int)) then !decide (p4 = (0 : Int))
                                              else false) &&
                                            decide ((0 : Int) < m_insn_Of_6 p0)) =
                                          true →
                                        decide (p4 < m_insn_Of_4 p0) = false →
                                          ((!bif decide (m_insn_Of_6 p0 = (0 : Int)) then !decide (p4 = (0 : Int))
                                                  else false) &&
                                                decide ((0 : Int) < m_insn_Of_6 p0) &&
                                              !decide (p4 < m_insn_Of_4 p0)) =
                                            true)).and
                                  ((Nd.prop
                                        (((!bif decide (m_insn_Of_6 p0 = (0 : Int)) then !decide (p4 = (0 : Int))
                                                else false) &&
                                              decide ((0 : Int) < m_insn_Of_6 p0)) =
                                            true →
                                          ((!bif decide (m_insn_Of_6 p0 = (0 : Int)) then !decide (p4 = (0 : Int))
                                                else false) &&
                                              decide ((0 : Int) < m_insn_Of_6 p0)) =
                                            true)).and
                                    ((Nd.prop
                                          (((!bif decide (m_insn_Of_6 p0 = (0 : Int)) then !decide (p4 = (0 : Int))
                                                  else false) &&
                                                decide ((0 : Int) < m_insn_Of_6 p0)) =
                                              true →
                                            ((!bif decide (m_insn_Of_6 p0 = (0 : Int)) then !decide (p4 = (0 : Int))
                                                  else false) &&
                                                decide ((0 : Int) < m_insn_Of_6 p0)) =
                                              true)).and
                                      ((Nd.prop
                                            (((!bif decide (m_insn_Of_6 p0 = (0 : Int)) then !decide (p4 = (0 : Int))
                                                      else false) &&
                                                    decide ((0 : Int) < m_insn_Of_6 p0) &&
                                                  !bif decide (p4 < m_insn_Of_4 p0) then true
                                                    else decide (m_insn_Of_5 p0 < p4)) =
                                                true →
                                              ((!bif decide (m_insn_Of_6 p0 = (0 : Int)) then !decide (p4 = (0 : Int))
                                                      else false) &&
                                                    decide ((0 : Int) < m_insn_Of_6 p0) &&
                                                  !bif decide (p4 < m_insn_Of_4 p0) then true
                                                    else decide (m_insn_Of_5 p0 < p4)) =
                                                true)).and
                                        ((Nd.prop
                                              (((!bif decide (m_insn_Of_6 p0 = (0 : Int)) then !decide (p4 = (0 : Int))
                                                        else false) &&
                                                      decide ((0 : Int) < m_insn_Of_6 p0) &&
                                                    !bif decide (p4 < m_insn_Of_4 p0) then true
                                                      else decide (m_insn_Of_5 p0 < p4)) =
                                                  true →
                                                ((!bif decide (m_insn_Of_6 p0 = (0 : Int)) then !decide (p4 = (0 : Int))
                                                        else false) &&
                                                      decide ((0 : Int) < m_insn_Of_6 p0) &&
                                                    !bif decide (p4 < m_insn_Of_4 p0) then true
                                                      else decide (m_insn_Of_5 p0 < p4)) =
                                                  true)).and
                                          ((Nd.prop
                                                (((!bif decide (m_insn_Of_6 p0 = (0 : Int)) then
                                                            !decide (p4 = (0 : Int))
                                                          else false) &&
                                                        decide ((0 : Int) < m_insn_Of_6 p0) &&
                                                      !bif decide (p4 < m_insn_Of_4 p0) then true
                                                        else decide (m_insn_Of_5 p0 < p4)) =
                                                    true →
                                                  m_insn_Of_6 p0 ≠ (0 : Int))).and
                                            ((Nd.prop
                                                  (((!bif decide (m_insn_Of_6 p0 = (0 : Int)) then
                                                              !decide (p4 = (0 : Int))
                                                            else false) &&
                                                          decide ((0 : Int) < m_insn_Of_6 p0) &&
                                                        !bif decide (p4 < m_insn_Of_4 p0) then true
                                                          else decide (m_insn_Of_5 p0 < p4)) =
                                                      true →
                                                    ((!bif decide (m_insn_Of_6 p0 = (0 : Int)) then
                                                              !decide (p4 = (0 : Int))
                                                            else false) &&
                                                          decide ((0 : Int) < m_insn_Of_6 p0) &&
                                                        !bif decide (p4 < m_insn_Of_4 p0) then true
                                                          else decide (m_insn_Of_5 p0 < p4)) =
                                                      true)).and
                                              ((Nd.prop
                                                    (((!bif decide (m_insn_Of_6 p0 = (0 : Int)) then
                                                                !decide (p4 = (0 : Int))
                                                              else false) &&
                                                            decide ((0 : Int) < m_insn_Of_6 p0) &&
                                                          !bif decide (p4 < m_insn_Of_4 p0) then true
                                                            else decide (m_insn_Of_5 p0 < p4)) =
                                                        true →
                                                      ((!bif decide (m_insn_Of_6 p0 = (0 : Int)) then
                                                                !decide (p4 = (0 : Int))
                                                              else false) &&
                                                            decide ((0 : Int) < m_insn_Of_6 p0) &&
                                                          !bif decide (p4 < m_insn_Of_4 p0) then true
                                                            else decide (m_insn_Of_5 p0 < p4)) =
                                                        true)).and
                                                ((Nd.prop
                                                      (((!bif decide (m_insn_Of_6 p0 = (0 : Int)) then
                                                                  !decide (p4 = (0 : Int))
                                                                else false) &&
                                                              decide ((0 : Int) < m_insn_Of_6 p0) &&
                                                            !bif decide (p4 < m_insn_Of_4 p0) then true
                                                              else decide (m_insn_Of_5 p0 < p4)) =
                                                          true →
                                                        ((!bif decide (m_insn_Of_6 p0 = (0 : Int)) then
                                                                  !decide (p4 = (0 : Int))
                                                                else false) &&
                                                              decide ((0 : Int) < m_insn_Of_6 p0) &&
                                                            !bif decide (p4 < m_insn_Of_4 p0) then true
                                                              else decide (m_insn_Of_5 p0 < p4)) =
                                                          true)).and
                                                  ((Nd.prop
                                                        (((!bif decide (m_insn_Of_6 p0 = (0 : Int)) then
                                                                  !decide (p4 = (0 : Int))
                                                                else false) &&
                                                              decide ((0 : Int) < m_insn_Of_6 p0)) =
                                                            true →
                                                          (bif decide (p4 < m_insn_Of_4 p0) then true
                                                              else decide (m_insn_Of_5 p0 < p4)) =
                                                              false →
                                                            ((!bif decide (m_insn_Of_6 p0 = (0 : Int)) then
                                                                      !decide (p4 = (0 : Int))
                                                                    else false) &&
                                                                  decide ((0 : Int) < m_insn_Of_6 p0) &&
                                                                !bif decide (p4 < m_insn_Of_4 p0) then true
                                                                  else decide (m_insn_Of_5 p0 < p4)) =
                                                              true)).and
                                                    ((Nd.prop
                                                          (((!bif decide (m_insn_Of_6 p0 = (0 : Int)) then
                                                                    !decide (p4 = (0 : Int))
                                                                  else false) &&
                                                                decide ((0 : Int) < m_insn_Of_6 p0)) =
                                                              true →
                                                            ((!bif decide (m_insn_Of_6 p0 = (0 : Int)) then
                                                                    !decide (p4 = (0 : Int))
                                                                  else false) &&
                                                                decide ((0 : Int) < m_insn_Of_6 p0)) =
                                                              true)).and
                                                      ((Nd.prop
                                                            ((!bif decide (m_insn_Of_6 p0 = (0 : Int)) then
                                                                    !decide (p4 = (0 : Int))
                                                                  else false) =
                                                                true →
                                                              decide ((0 : Int) < m_insn_Of_6 p0) = true →
                                                                ((!bif decide (m_insn_Of_6 p0 = (0 : Int)) then
                                                                        !decide (p4 = (0 : Int))
                                                                      else false) &&
                                                                    decide ((0 : Int) < m_insn_Of_6 p0)) =
                                                                  true)).and
                                                        ((Nd.prop
                                                              ((!bif decide (m_insn_Of_6 p0 = (0 : Int)) then
                                                                      !decide (p4 = (0 : Int))
                                                                    else false) =
                                                                  true →
                                                                (!bif decide (m_insn_Of_6 p0 = (0 : Int)) then
                                                                      !decide (p4 = (0 : Int))
                                                                    else false) =
                                                                  true)).and
                                                          ((Nd.prop
                                                                ((bif decide (m_insn_Of_6 p0 = (0 : Int)) then
                                                                      !decide (p4 = (0 : Int))
                                                                    else false) =
                                                                    false →
                                                                  (!bif decide (m_insn_Of_6 p0 = (0 : Int)) then
                                                                        !decide (p4 = (0 : Int))
                                                                      else false) =
                                                                    true)).and
                                                            (Nd.ite
                                                              (bif
                                                                  bif decide (m_insn_Of_6 p0 = (0 : Int)) then
                                                                    !decide (p4 = (0 : Int))
                                                                  else false then
                                                                true
                                                              else
                                                                bif decide ((0 : Int) < m_insn_Of_6 p0) then
                                                                  bif
                                                                      bif decide (p4 < m_insn_Of_4 p0) then true
                                                                      else decide (m_insn_Of_5 p0 < p4) then
                                                                    true
                                                                  else !decide (p4.tmod (m_insn_Of_6 p0) = (0 : Int))
                                                                else false)
                                                              Nd.yes
                                                              ((Nd.prop
                                                                    (m_insn_field_0 (m_insn_Of_0 p0) p1 (32 : Int) =
                                                                        true →
                                                                      m_insn_field_0 (m_insn_Of_0 p0) p1 (32 : Int) =
                                                                        true)).and
                                                                ((Nd.prop
                                                                      (m_insn_field_0 (m_insn_Of_0 p0) p1 (32 : Int) =
                                                                          true →
                                                                        m_insn_field_0 (m_insn_Of_0 p0) p1 (32 : Int) =
                                                                          true)).and
                                                                  ((Nd.prop
                                                                        (m_insn_field_0 (m_insn_Of_0 p0) p1 (32 : Int) =
                                                                            true →
                                                                          m_insn_field_0 (m_insn_Of_0 p0) p1
                                                                              (32 : Int) =
                                                                            true)).and
                                                                    ((Nd.prop
                                                                          (m_insn_field_0 (m_insn_Of_0 p0) p1
                                                                                (32 : Int) =
                                                                              true →
                                                                            m_insn_field_0 (m_insn_Of_0 p0) p1
                                                                                (32 : Int) =
                                                                              true)).and
                                                                      ((Nd.prop
                                                                            (m_insn_field_0 (m_insn_Of_0 p0) p1
                                                                                  (32 : Int) =
                                                                                true →
                                                                              m_insn_field_0 (m_insn_Of_0 p0) p1
                                                                                  (32 : Int) =
                                                                                true)).and
                                                                        ((Nd.prop
                                                                              ((bif
                                                                                      m_insn_field_0 (m_insn_Of_0 p0) p1
                                                                                        (32 : Int) then
                                                                                    m_insn_field_0 (m_insn_Of_2 p0) p2
                                                                                      (32 : Int)
                                                                                  else false) =
                                                                                  true →
                                                                                (bif
                                                                                      m_insn_field_0 (m_insn_Of_0 p0) p1
                                                                                        (32 : Int) then
                                                                                    m_insn_field_0 (m_insn_Of_2 p0) p2
                                                                                      (32 : Int)
                                                                                  else false) =
                                                                                  true)).and
                                                                          ((Nd.prop
                                                                                ((bif
                                                                                        m_insn_field_0 (m_insn_Of_0 p0)
                                                                                          p1 (32 : Int) then
                                                                                      m_insn_field_0 (m_insn_Of_2 p0) p2
                                                                                        (32 : Int)
                                                                                    else false) =
                                                                                    true →
                                                                                  (bif
                                                                                        m_insn_field_0 (m_insn_Of_0 p0)
                                                                                          p1 (32 : Int) then
                                                                                      m_insn_field_0 (m_insn_Of_2 p0) p2
                                                                                        (32 : Int)
                                                                                    else false) =
                                                                                    true)).and
                                                                            ((Nd.prop
                                                                                  ((bif
                                                                                          m_insn_field_0
                                                                                            (m_insn_Of_0 p0) p1
                                                                                            (32 : Int) then
                                                                                        m_insn_field_0 (m_insn_Of_2 p0)
                                                                                          p2 (32 : Int)
                                                                                      else false) =
                                                                                      true →
                                                                                    (bif
                                                                                          m_insn_field_0
                                                                                            (m_insn_Of_0 p0) p1
                                                                                            (32 : Int) then
                                                                                        m_insn_field_0 (m_insn_Of_2 p0)
                                                                                          p2 (32 : Int)
                                                                                      else false) =
                                                                                      true)).and
                                                                              ((Nd.prop
                                                                                    ((bif
                                                                                            m_insn_field_0
                                                                                              (m_insn_Of_0 p0) p1
                                                                                              (32 : Int) then
                                                                                          m_insn_field_0
                                                                                            (m_insn_Of_2 p0) p2
                                                                                            (32 : Int)
                                                                                        else false) =
                                                                                        true →
                                                                                      (bif
                                                                                            m_insn_field_0
                                                                                              (m_insn_Of_0 p0) p1
                                                                                              (32 : Int) then
                                                                                          m_insn_field_0
                                                                                            (m_insn_Of_2 p0) p2
                                                                                            (32 : Int)
                                                                                        else false) =
                                                                                        true)).and
                                                                                ((Nd.prop
                                                                                      ((bif
                                                                                              m_insn_field_0
                                                                                                (m_insn_Of_0 p0) p1
                                                                                                (32 : Int) then
                                                                                            m_insn_field_0
                                                                                              (m_insn_Of_2 p0) p2
                                                                                              (32 : Int)
                                                                                          else false) =
                                                                                          true →
                                                                                        (bif
                                                                                              m_insn_field_0
                                                                                                (m_insn_Of_0 p0) p1
                                                                                                (32 : Int) then
                                                                                            m_insn_field_0
                                                                                              (m_insn_Of_2 p0) p2
                                                                                              (32 : Int)
                                                                                          else false) =
                                                                                          true)).and
                                                                                  ((Nd.prop
                                                                                        ((bif
                                                                                                bif
                                                                                                    m_insn_field_0
                                                                                                      (m_insn_Of_0 p0)
                                                                                                      p1 (32 : Int) then
                                                                                                  m_insn_field_0
                                                                                                    (m_insn_Of_2 p0) p2
                                                                                                    (32 : Int)
                                                                                                else false then
                                                                                              m_insn_field_0
                                                                                                (m_insn_Of_3 p0) p3
                                                                                                (32 : Int)
                                                                                            else false) =
                                                                                            true →
                                                                                          (bif
                                                                                                bif
                                                                                                    m_insn_field_0
                                                                                                      (m_insn_Of_0 p0)
                                                                                                      p1 (32 : Int) then
                                                                                                  m_insn_field_0
                                                                                                    (m_insn_Of_2 p0) p2
                                                                                                    (32 : Int)
                                                                                                else false then
                                                                                              m_insn_field_0
                                                                                                (m_insn_Of_3 p0) p3
                                                                                                (32 : Int)
                                                                                            else false) =
                                                                                            true)).and
                                                                                    ((Nd.prop
                                                                                          ((bif
                                                                                                  bif
                                                                                                      m_insn_field_0
                                                                                                        (m_insn_Of_0 p0)
                                                                                                        p1
                                                                                                        (32 : Int) then
                                                                                                    m_insn_field_0
                                                                                                      (m_insn_Of_2 p0)
                                                                                                      p2 (32 : Int)
                                                                                                  else false then
                                                                                                m_insn_field_0
                                                                                                  (m_insn_Of_3 p0) p3
                                                                                                  (32 : Int)
                                                                                              else false) =
                                                                                              true →
                                                                                            (bif
                                                                                                  bif
                                                                                                      m_insn_field_0
                                                                                                        (m_insn_Of_0 p0)
                                                                                                        p1
                                                                                                        (32 : Int) then
                                                                                                    m_insn_field_0
                                                                                                      (m_insn_Of_2 p0)
                                                                                                      p2 (32 : Int)
                                                                                                  else false then
                                                                                                m_insn_field_0
                                                                                                  (m_insn_Of_3 p0) p3
                                                                                                  (32 : Int)
                                                                                              else false) =
                                                                                              true)).and
                                                                                      ((Nd.prop
                                                                                            ((bif
                                                                                                    bif
                                                                                                        m_insn_field_0
                                                                                                          (m_insn_Of_0
                                                                                                            p0)
                                                                                                          p1
                                                                                                          (32 :
                                                                                                            Int) then
                                                                                                      m_insn_field_0
                                                                                                        (m_insn_Of_2 p0)
                                                                                                        p2 (32 : Int)
                                                                                                    else false then
                                                                                                  m_insn_field_0
                                                                                                    (m_insn_Of_3 p0) p3
                                                                                                    (32 : Int)
                                                                                                else false) =
                                                                                                true →
                                                                                              (bif
                                                                                                    bif
                                                                                                        m_insn_field_0
                                                                                                          (m_insn_Of_0
                                                                                                            p0)
                                                                                                          p1
                                                                                                          (32 :
                                                                                                            Int) then
                                                                                                      m_insn_field_0
                                                                                                        (m_insn_Of_2 p0)
                                                                                                        p2 (32 : Int)
                                                                                                    else false then
                                                                                                  m_insn_field_0
                                                                                                    (m_insn_Of_3 p0) p3
                                                                                                    (32 : Int)
                                                                                                else false) =
                                                                                                true)).and
                                                                                        ((Nd.prop
                                                                                              ((bif
                                                                                                      bif
                                                                                                          m_insn_field_0
                                                                                                            (m_insn_Of_0
                                                                                                              p0)
                                                                                                            p1
                                                                                                            (32 :
                                                                                                              Int) then
                                                                                                        m_insn_field_0
                                                                                                          (m_insn_Of_2
                                                                                                            p0)
                                                                                                          p2 (32 : Int)
                                                                                                      else false then
                                                                                                    m_insn_field_0
                                                                                                      (m_insn_Of_3 p0)
                                                                                                      p3 (32 : Int)
                                                                                                  else false) =
                                                                                                  true →
                                                                                                (bif
                                                                                                      bif
                                                                                                          m_insn_field_0
                                                                                                            (m_insn_Of_0
                                                                                                              p0)
                                                                                                            p1
                                                                                                            (32 :
                                                                                                              Int) then
                                                                                                        m_insn_field_0
                                                                                                          (m_insn_Of_2
                                                                                                            p0)
                                                                                                          p2 (32 : Int)
                                                                                                      else false then
                                                                                                    m_insn_field_0
                                                                                                      (m_insn_Of_3 p0)
                                                                                                      p3 (32 : Int)
                                                                                                  else false) =
                                                                                                  true)).and
                                                                                          (Nd.prop
                                                                                            ((bif
                                                                                                    bif
                                                                                                        m_insn_field_0
                                                                                                          (m_insn_Of_0
                                                                                                            p0)
                                                                                                          p1
                                                                                                          (32 :
                                                                                                            Int) then
                                                                                                      m_insn_field_0
                                                                                                        (m_insn_Of_2 p0)
                                                                                                        p2 (32 : Int)
                                                                                                    else false then
                                                                                                  m_insn_field_0
                                                                                                    (m_insn_Of_3 p0) p3
                                                                                                    (32 : Int)
                                                                                                else false) =
                                                                                                true →
                                                                                              (bif
                                                                                                    bif
                                                                                                        m_insn_field_0
                                                                                                          (m_insn_Of_0
                                                                                                            p0)
                                                                                                          p1
                                                                                                          (32 :
                                                                                                            Int) then
                                                                                                      m_insn_field_0
                                                                                                        (m_insn_Of_2 p0)
                                                                                                        p2 (32 : Int)
                                                                                                    else false then
                                                                                                  m_insn_field_0
                                                                                                    (m_insn_Of_3 p0) p3
                                                                                                    (32 : Int)
                                                                                                else false) =
                                                                                                true))))))))))))))))))))))))))))))))))))))))))))))
def m_alu_Extend_0 (p0 : Int) (p1 : BitVec 64) : BitVec (64 : Nat) := if decide (p0 = (15 : Int)) = true then
  if decide (p0 = (15 : Int)) = true then m_word_Zext_0 p1 (IntKind.i64.wrap ((8 : Int) * m_insn_Size_0 p0))
  else
    if decide (p0 = (11 : Int)) = true then
      if decide (p0 = (11 : Int)) = true then m_word_Sext_0 p1 (IntKind.i64.wrap ((8 : Int) * m_insn_Size_0 p0))
      else BitVec.ofNat (64 : Nat) (0 : Nat)
    else
      if decide (p0 = (12 : Int)) = true then
        if decide (p0 = (12 : Int)) = true then m_word_Sext_0 p1 (IntKind.i64.wrap ((8 : Int) * m_insn_Size_0 p0))
        else BitVec.ofNat (64 : Nat) (0 : Nat)
      else
        if decide (p0 = (13 : Int)) = true then
          if decide (p0 = (13 : Int)) = true then m_word_Sext_0 p1 (IntKind.i64.wrap ((8 : Int) * m_insn_Size_0 p0))
          else BitVec.ofNat (64 : Nat) (0 : Nat)
        else
          if decide (p0 = (14 : Int)) = true then
            if decide (p0 = (14 : Int)) = true then m_word_Sext_0 p1 (IntKind.i64.wrap ((8 : Int) * m_insn_Size_0 p0))
            else BitVec.ofNat (64 : Nat) (0 : Nat)
          else
            if decide (p0 = (66 : Int)) = true then
              if decide (p0 = (66 : Int)) = true then m_word_Sext_0 p1 (IntKind.i64.wrap ((8 : Int) * m_insn_Size_0 p0))
              else BitVec.ofNat (64 : Nat) (0 : Nat)
            else
              if decide (p0 = (67 : Int)) = true then m_word_Sext_0 p1 (IntKind.i64.wrap ((8 : Int) * m_insn_Size_0 p0))
              else BitVec.ofNat (64 : Nat) (0 : Nat)
else
  if decide (p0 = (16 : Int)) = true then
    if decide (p0 = (16 : Int)) = true then m_word_Zext_0 p1 (IntKind.i64.wrap ((8 : Int) * m_insn_Size_0 p0))
    else
      if decide (p0 = (11 : Int)) = true then
        if decide (p0 = (11 : Int)) = true then m_word_Sext_0 p1 (IntKind.i64.wrap ((8 : Int) * m_insn_Size_0 p0))
        else BitVec.ofNat (64 : Nat) (0 : Nat)
      else
        if decide (p0 = (12 : Int)) = true then
          if decide (p0 = (12 : Int)) = true then m_word_Sext_0 p1 (IntKind.i64.wrap ((8 : Int) * m_insn_Size_0 p0))
          else BitVec.ofNat (64 : Nat) (0 : Nat)
        else
          if decide (p0 = (13 : Int)) = true then
            if decide (p0 = (13 : Int)) = true then m_word_Sext_0 p1 (IntKind.i64.wrap ((8 : Int) * m_insn_Size_0 p0))
            else BitVec.ofNat (64 : Nat) (0 : Nat)
          else
            if decide (p0 = (14 : Int)) = true then
              if decide (p0 = (14 : Int)) = true then m_word_Sext_0 p1 (IntKind.i64.wrap ((8 : Int) * m_insn_Size_0 p0))
              else BitVec.ofNat (64 : Nat) (0 : Nat)
            else
              if decide (p0 = (66 : Int)) = true then
                if decide (p0 = (66 : Int)) = true then
                  m_word_Sext_0 p1 (IntKind.i64.wrap ((8 : Int) * m_insn_Size_0 p0))
                else BitVec.ofNat (64 : Nat) (0 : Nat)
              else
                if decide (p0 = (67 : Int)) = true then
                  m_word_Sext_0 p1 (IntKind.i64.wrap ((8 : Int) * m_insn_Size_0 p0))
                else BitVec.ofNat (64 : Nat) (0 : Nat)
  else
    if decide (p0 = (17 : Int)) = true then
      if decide (p0 = (17 : Int)) = true then m_word_Zext_0 p1 (IntKind.i64.wrap ((8 : Int) * m_insn_Size_0 p0))
      else
        if decide (p0 = (11 : Int)) = true then
          if decide (p0 = (11 : Int)) = true then m_word_Sext_0 p1 (IntKind.i64.wrap ((8 : Int) * m_insn_Size_0 p0))
          else BitVec.ofNat (64 : Nat) (0 : Nat)
        else
          if decide (p0 = (12 : Int)) = true then
            if decide (p0 = (12 : Int)) = true then m_word_Sext_0 p1 (IntKind.i64.wrap ((8 : Int) * m_insn_Size_0 p0))
            else BitVec.ofNat (64 : Nat) (0 : Nat)
          else
            if decide (p0 = (13 : Int)) = true then
              if decide (p0 = (13 : Int)) = true then m_word_Sext_0 p1 (IntKind.i64.wrap ((8 : Int) * m_insn_Size_0 p0))
              else BitVec.ofNat (64 : Nat) (0 : Nat)
            else
              if decide (p0 = (14 : Int)) = true then
                if decide (p0 = (14 : Int)) = true then
                  m_word_Sext_0 p1 (IntKind.i64.wrap ((8 : Int) * m_insn_Size_0 p0))
                else BitVec.ofNat (64 : Nat) (0 : Nat)
              else
                if decide (p0 = (66 : Int)) = true then
                  if decide (p0 = (66 : Int)) = true then
                    m_word_Sext_0 p1 (IntKind.i64.wrap ((8 : Int) * m_insn_Size_0 p0))
                  else BitVec.ofNat (64 : Nat) (0 : Nat)
                else
                  if decide (p0 = (67 : Int)) = true then
                    m_word_Sext_0 p1 (IntKind.i64.wrap ((8 : Int) * m_insn_Size_0 p0))
                  else BitVec.ofNat (64 : Nat) (0 : Nat)
    else
      if decide (p0 = (68 : Int)) = true then m_word_Zext_0 p1 (IntKind.i64.wrap ((8 : Int) * m_insn_Size_0 p0))
      else
        if decide (p0 = (11 : Int)) = true then
          if decide (p0 = (11 : Int)) = true then m_word_Sext_0 p1 (IntKind.i64.wrap ((8 : Int) * m_insn_Size_0 p0))
          else BitVec.ofNat (64 : Nat) (0 : Nat)
        else
          if decide (p0 = (12 : Int)) = true then
            if decide (p0 = (12 : Int)) = true then m_word_Sext_0 p1 (IntKind.i64.wrap ((8 : Int) * m_insn_Size_0 p0))
            else BitVec.ofNat (64 : Nat) (0 : Nat)
          else
            if decide (p0 = (13 : Int)) = true then
              if decide (p0 = (13 : Int)) = true then m_word_Sext_0 p1 (IntKind.i64.wrap ((8 : Int) * m_insn_Size_0 p0))
              else BitVec.ofNat (64 : Nat) (0 : Nat)
            else
              if decide (p0 = (14 : Int)) = true then
                if decide (p0 = (14 : Int)) = true then
                  m_word_Sext_0 p1 (IntKind.i64.wrap ((8 : Int) * m_insn_Size_0 p0))
                else BitVec.ofNat (64 : Nat) (0 : Nat)
              else
                if decide (p0 = (66 : Int)) = true then
                  if decide (p0 = (66 : Int)) = true then
                    m_word_Sext_0 p1 (IntKind.i64.wrap ((8 : Int) * m_insn_Size_0 p0))
                  else BitVec.ofNat (64 : Nat) (0 : Nat)
                else
                  if decide (p0 = (67 : Int)) = true then
                    m_word_Sext_0 p1 (IntKind.i64.wrap ((8 : Int) * m_insn_Size_0 p0))
                  else BitVec.ofNat (64 : Nat) (0 : Nat)
def nd_alu_Extend (p0 : Int) (p1 : BitVec 64) : Nd := Nd.ite (decide (p0 = (15 : Int)))
  (Nd.ite (decide (p0 = (15 : Int))) (Nd.prop (nd_word_Zext p1 (IntKind.i64.wrap ((8 : Int) * m_insn_Size_0 p0))).ok)
    (Nd.ite (decide (p0 = (11 : Int)))
      (Nd.ite (decide (p0 = (11 : Int)))
        (Nd.prop (nd_word_Sext p1 (IntKind.i64.wrap ((8 : Int) * m_insn_Size_0 p0))).ok) Nd.yes)
      (Nd.ite (decide (p0 = (12 : Int)))
        (Nd.ite (decide (p0 = (12 : Int)))
          (Nd.prop (nd_word_Sext p1 (IntKind.i64.wrap ((8 : Int) * m_insn_Size_0 p0))).ok) Nd.yes)
        (Nd.ite (decide (p0 = (13 : Int)))
          (Nd.ite (decide (p0 = (13 : Int)))
            (Nd.prop (nd_word_Sext p1 (IntKind.i64.wrap ((8 : Int) * m_insn_Size_0 p0))).ok) Nd.yes)
          (Nd.ite (decide (p0 = (14 : Int)))
            (Nd.ite (decide (p0 = (14 : Int)))
              (Nd.prop (nd_word_Sext p1 (IntKind.i64.wrap ((8 : Int) * m_insn_Size_0 p0))).ok) Nd.yes)
            (Nd.ite (decide (p0 = (66 : Int)))
              (Nd.ite (decide (p0 = (66 : Int)))
                (Nd.prop (nd_word_Sext p1 (IntKind.i64.wrap ((8 : Int) * m_insn_Size_0 p0))).ok) Nd.yes)
              (Nd.ite (decide (p0 = (67 : Int)))
                (Nd.prop (nd_word_Sext p1 (IntKind.i64.wrap ((8 : Int) * m_insn_Size_0 p0))).ok) Nd.yes)))))))
  (Nd.ite (decide (p0 = (16 : Int)))
    (Nd.ite (decide (p0 = (16 : Int))) (Nd.prop (nd_word_Zext p1 (IntKind.i64.wrap ((8 : Int) * m_insn_Size_0 p0))).ok)
      (Nd.ite (decide (p0 = (11 : Int)))
        (Nd.ite (decide (p0 = (11 : Int)))
          (Nd.prop (nd_word_Sext p1 (IntKind.i64.wrap ((8 : Int) * m_insn_Size_0 p0))).ok) Nd.yes)
        (Nd.ite (decide (p0 = (12 : Int)))
          (Nd.ite (decide (p0 = (12 : Int)))
            (Nd.prop (nd_word_Sext p1 (IntKind.i64.wrap ((8 : Int) * m_insn_Size_0 p0))).ok) Nd.yes)
          (Nd.ite (decide (p0 = (13 : Int)))
            (Nd.ite (decide (p0 = (13 : Int)))
              (Nd.prop (nd_word_Sext p1 (IntKind.i64.wrap ((8 : Int) * m_insn_Size_0 p0))).ok) Nd.yes)
            (Nd.ite (decide (p0 = (14 : Int)))
              (Nd.ite (decide (p0 = (14 : Int)))
                (Nd.prop (nd_word_Sext p1 (IntKind.i64.wrap ((8 : Int) * m_insn_Size_0 p0))).ok) Nd.yes)
              (Nd.ite (decide (p0 = (66 : Int)))
                (Nd.ite (decide (p0 = (66 : Int)))
                  (Nd.prop (nd_word_Sext p1 (IntKind.i64.wrap ((8 : Int) * m_insn_Size_0 p0))).ok) Nd.yes)
                (Nd.ite (decide (p0 = (67 : Int)))
                  (Nd.prop (nd_word_Sext p1 (IntKind.i64.wrap ((8 : Int) * m_insn_Size_0 p0))).ok) Nd.yes)))))))
    (Nd.ite (decide (p0 = (17 : Int)))
      (Nd.ite (decide (p0 = (17 : Int)))
        (Nd.prop (nd_word_Zext p1 (IntKind.i64.wrap ((8 : Int) * m_insn_Size_0 p0))).ok)
        (Nd.ite (decide (p0 = (11 : Int)))
          (Nd.ite (decide (p0 = (11 : Int)))
            (Nd.prop (nd_word_Sext p1 (IntKind.i64.wrap ((8 : Int) * m_insn_Size_0 p0))).ok) Nd.yes)
          (Nd.ite (decide (p0 = (12 : Int)))
            (Nd.ite (decide (p0 = (12 : Int)))
              (Nd.prop (nd_word_Sext p1 (IntKind.i64.wrap ((8 : Int) * m_insn_Size_0 p0))).ok) Nd.yes)
            (Nd.ite (decide (p0 = (13 : Int)))
              (Nd.ite (decide (p0 = (13 : Int)))
                (Nd.prop (nd_word_Sext p1 (IntKind.i64.wrap ((8 : Int) * m_insn_Size_0 p0))).ok) Nd.yes)
              (Nd.ite (decide (p0 = (14 : Int)))
                (Nd.ite (decide (p0 = (14 : Int)))
                  (Nd.prop (nd_word_Sext p1 (IntKind.i64.wrap ((8 : Int) * m_insn_Size_0 p0))).ok) Nd.yes)
                (Nd.ite (decide (p0 = (66 : Int)))
                  (Nd.ite (decide (p0 = (66 : Int)))
                    (Nd.prop (nd_word_Sext p1 (IntKind.i64.wrap ((8 : Int) * m_insn_Size_0 p0))).ok) Nd.yes)
                  (Nd.ite (decide (p0 = (67 : Int)))
                    (Nd.prop (nd_word_Sext p1 (IntKind.i64.wrap ((8 : Int) * m_insn_Size_0 p0))).ok) Nd.yes)))))))
      (Nd.ite (decide (p0 = (68 : Int)))
        (Nd.prop (nd_word_Zext p1 (IntKind.i64.wrap ((8 : Int) * m_insn_Size_0 p0))).ok)
        (Nd.ite (decide (p0 = (11 : Int)))
          (Nd.ite (decide (p0 = (11 : Int)))
            (Nd.prop (nd_word_Sext p1 (IntKind.i64.wrap ((8 : Int) * m_insn_Size_0 p0))).ok) Nd.yes)
          (Nd.ite (decide (p0 = (12 : Int)))
            (Nd.ite (decide (p0 = (12 : Int)))
              (Nd.prop (nd_word_Sext p1 (IntKind.i64.wrap ((8 : Int) * m_insn_Size_0 p0))).ok) Nd.yes)
            (Nd.ite (decide (p0 = (13 : Int)))
              (Nd.ite (decide (p0 = (13 : Int)))
                (Nd.prop (nd_word_Sext p1 (IntKind.i64.wrap ((8 : Int) * m_insn_Size_0 p0))).ok) Nd.yes)
              (Nd.ite (decide (p0 = (14 : Int)))
                (Nd.ite (decide (p0 = (14 : Int)))
                  (Nd.prop (nd_word_Sext p1 (IntKind.i64.wrap ((8 : Int) * m_insn_Size_0 p0))).ok) Nd.yes)
                (Nd.ite (decide (p0 = (66 : Int)))
                  (Nd.ite (decide (p0 = (66 : Int)))
                    (Nd.prop (nd_word_Sext p1 (IntKind.i64.wrap ((8 : Int) * m_insn_Size_0 p0))).ok) Nd.yes)
                  (Nd.ite (decide (p0 = (67 : Int)))
                    (Nd.prop (nd_word_Sext p1 (IntKind.i64.wrap ((8 : Int) * m_insn_Size_0 p0))).ok) Nd.yes)))))))))
def m_two_faults_of_0 (p0 : BitVec 64) (p1 : Int) (p2 : Bool) (p3 : Int) (p4 : BitVec 64) : BitVec (64 : Nat) := if decide (p3 = (1 : Int)) = true then m_two_faults_guest_0 p0 p1 p2 p4 else m_two_faults_access_0 p0 p1 p2
def m_two_faults_of_1 (p0 : BitVec 64) (p1 : Int) (p2 : Bool) (p3 : Int) (p4 : BitVec 64) : BitVec (64 : Nat) := if decide (p3 = (1 : Int)) = true then p0 else p0
def m_two_faults_of_2 (p0 : BitVec 64) (p1 : Int) (p2 : Bool) (p3 : Int) (p4 : BitVec 64) : BitVec (64 : Nat) := if decide (p3 = (1 : Int)) = true then m_two_faults_guest_1 p0 p1 p2 p4 else m_two_faults_access_1 p0 p1 p2
def m_two_faults_of_3 (p0 : BitVec 64) (p1 : Int) (p2 : Bool) (p3 : Int) (p4 : BitVec 64) : Bool := if decide (p3 = (1 : Int)) = true then p2 else p2
def nd_two_faults_of (p0 : BitVec 64) (p1 : Int) (p2 : Bool) (p3 : Int) (p4 : BitVec 64) : Nd := Nd.yes
def m_two_join_0 (p0 : Int) (p1 : BitVec 64) : BitVec (64 : Nat) := BitVec.ofInt (64 : Nat) p0 <<< (8 : Nat) ||| m_word_Zext_0 p1 (8 : Int)
def nd_two_join (p0 : Int) (p1 : BitVec 64) : Nd := Nd.prop (nd_word_Zext p1 (8 : Int)).ok
def m_pte_Frame_0 (p0 : BitVec 64) : Int := (m_word_Bits_0 p0 (8 : Int) (8 : Int)).toInt
def nd_pte_Frame (p0 : BitVec 64) : Nd := Nd.prop (nd_word_Bits p0 (8 : Int) (8 : Int)).ok
set_option maxHeartbeats 400000 in
theorem ok_access_Aligned (p0 : BitVec 64) (p1 : Int) (p2 : Int) (p3 : Bool) : (nd_access_Aligned p0 p1 p2 p3).ok := by
  first
  | (simp [nd_access_Aligned, Nd.ok]; done)
  | (simp [nd_access_Aligned, Nd.ok]; omega)
  | (simp only [nd_access_Aligned, Nd.ok]; simp_all; done)
  | (simp only [nd_access_Aligned, Nd.ok]; grind)
  | (simp only [nd_access_Aligned, Nd.ok]; simp; intros; simp_all)
set_option maxHeartbeats 400000 in
theorem ok_insn_Is (p0 : Int) (p1 : Int) (p2 : Int) (p3 : Int) (p4 : Int) (p5 : Int) : (nd_insn_Is p0 p1 p2 p3 p4 p5).ok := by
  first
  | (simp [nd_insn_Is, Nd.ok]; done)
  | (simp [nd_insn_Is, Nd.ok]; omega)
  | (simp only [nd_insn_Is, Nd.ok]; simp_all; done)
  | (simp only [nd_insn_Is, Nd.ok]; grind)
  | (simp only [nd_insn_Is, Nd.ok]; simp; intros; simp_all)
def F_access_Aligned : List V → Option (List Prop × SV)
  | [.sc (.u64 s0 p0), .sc (.int .i64 s1 p1), .sc (.int .i64 s2 p2), .sc (.bool s3 p3)] => some ([], SV.tup
  [V.agg
      [Seg.one (SC.u64 (s0 && s1 && s2 && s3) (m_access_Aligned_0 p0 p1 p2 p3)), Seg.one (SC.u64 (s0 && s1 && s2 && s3) (m_access_Aligned_1 p0 p1 p2 p3)),
        Seg.one (SC.u64 (s0 && s1 && s2 && s3) (m_access_Aligned_2 p0 p1 p2 p3)), Seg.one (SC.bool (s0 && s1 && s2 && s3) (m_access_Aligned_3 p0 p1 p2 p3))],
    V.sc (SC.bool (s0 && s1 && s2 && s3) (m_access_Aligned_4 p0 p1 p2 p3))])
  | _ => none
def F_insn_Is : List V → Option (List Prop × SV)
  | [.agg [.one (.int .i64 s0 p0), .one (.int .i64 s1 p1), .one (.int .i64 s2 p2), .one (.int .i64 s3 p3), .one (.int .i64 s4 p4), .one (.int .i64 s5 p5)]] => some ([], SV.ev (V.sc (SC.bool (s0 && s1 && s2 && s3 && s4 && s5) (m_insn_Is_0 p0 p1 p2 p3 p4 p5))))
  | _ => none
def F_alu_Extend : List V → Option (List Prop × SV)
  | [.sc (.int .i64 s0 p0), .sc (.u64 s1 p1)] => some ([(nd_alu_Extend p0 p1).ok], SV.ev (V.sc (SC.u64 (s0 && s1) (m_alu_Extend_0 p0 p1))))
  | _ => none
def F_two_faults_of : List V → Option (List Prop × SV)
  | [.agg [.one (.u64 s0 p0), .one (.int .i64 s1 p1), .one (.bool s2 p2)], .sc (.int .i64 s3 p3), .sc (.u64 s4 p4)] => some ([], SV.ev
  (V.agg
    [Seg.one (SC.u64 (s0 && s1 && s2 && s3 && s4) (m_two_faults_of_0 p0 p1 p2 p3 p4)), Seg.one (SC.u64 (s0 && s1 && s2 && s3 && s4) (m_two_faults_of_1 p0 p1 p2 p3 p4)),
      Seg.one (SC.u64 (s0 && s1 && s2 && s3 && s4) (m_two_faults_of_2 p0 p1 p2 p3 p4)), Seg.one (SC.bool (s0 && s1 && s2 && s3 && s4) (m_two_faults_of_3 p0 p1 p2 p3 p4))]))
  | _ => none
def F_two_join : List V → Option (List Prop × SV)
  | [.sc (.int .i64 s0 p0), .sc (.u64 s1 p1)] => some ([(nd_two_join p0 p1).ok], SV.ev (V.sc (SC.u64 (s0 && s1) (m_two_join_0 p0 p1))))
  | _ => none
def F_pte_Frame : List V → Option (List Prop × SV)
  | [.sc (.u64 s0 p0)] => some ([(nd_pte_Frame p0).ok], SV.ev (V.sc (SC.int IntKind.i64 (s0) (m_pte_Frame_0 p0))))
  | _ => none
end Go.X.M

set_option maxRecDepth 100000
set_option linter.all false
set_option maxHeartbeats 4000000
namespace Go.X.M
open Go Go.X
end Go.X.M

set_option maxRecDepth 100000
set_option linter.all false
set_option maxHeartbeats 4000000
namespace Go.X.M
open Go Go.X
def m_pte_May_0 (p0 : Int) (p1 : Int) (p2 : Bool) (p3 : Bool) (p4 : Bool) : Bool := if (!p2) = true then
  if
      (bif
            bif
                bif
                    !decide
                        ((BitVec.ofInt (64 : Nat) p0 &&& BitVec.ofNat (64 : Nat) (64 : Nat)).toInt = (64 : Int)) then
                  true
                else
                  !bif
                        !decide
                            ((BitVec.ofInt (64 : Nat) p0 &&& BitVec.ofNat (64 : Nat) (16 : Nat)).toInt =
                              (16 : Int)) then
                      true
                    else bif p3 then !decide (p1 = (0 : Int)) else false then
              true
            else decide (p1 < (0 : Int)) then
          true
        else decide ((2 : Int) < p1)) =
        true then
    false
  else
    upd
      (upd
        (upd (fun x => false) (0 : Nat)
          (decide ((BitVec.ofInt (64 : Nat) p0 &&& BitVec.ofNat (64 : Nat) (8 : Nat)).toInt = (8 : Int))))
        (1 : Nat)
        (bif decide ((BitVec.ofInt (64 : Nat) p0 &&& BitVec.ofNat (64 : Nat) (2 : Nat)).toInt = (2 : Int)) then true
        else
          bif p4 then decide ((BitVec.ofInt (64 : Nat) p0 &&& BitVec.ofNat (64 : Nat) (8 : Nat)).toInt = (8 : Int))
          else false))
      (2 : Nat) (decide ((BitVec.ofInt (64 : Nat) p0 &&& BitVec.ofNat (64 : Nat) (132 : Nat)).toInt = (132 : Int)))
      p1.toNat
else
  if
      (bif
            bif
                bif
                    !decide
                        ((BitVec.ofInt (64 : Nat) p0 &&& BitVec.ofNat (64 : Nat) (64 : Nat)).toInt = (64 : Int)) then
                  true
                else
                  !decide ((BitVec.ofInt (64 : Nat) p0 &&& BitVec.ofNat (64 : Nat) (16 : Nat)).toInt = (16 : Int)) then
              true
            else decide (p1 < (0 : Int)) then
          true
        else decide ((2 : Int) < p1)) =
        true then
    false
  else
    upd
      (upd
        (upd (fun x => false) (0 : Nat)
          (decide ((BitVec.ofInt (64 : Nat) p0 &&& BitVec.ofNat (64 : Nat) (8 : Nat)).toInt = (8 : Int))))
        (1 : Nat)
        (bif decide ((BitVec.ofInt (64 : Nat) p0 &&& BitVec.ofNat (64 : Nat) (2 : Nat)).toInt = (2 : Int)) then true
        else
          bif p4 then decide ((BitVec.ofInt (64 : Nat) p0 &&& BitVec.ofNat (64 : Nat) (8 : Nat)).toInt = (8 : Int))
          else false))
      (2 : Nat) (decide ((BitVec.ofInt (64 : Nat) p0 &&& BitVec.ofNat (64 : Nat) (132 : Nat)).toInt = (132 : Int)))
      p1.toNat
def nd_pte_May (p0 : Int) (p1 : Int) (p2 : Bool) (p3 : Bool) (p4 : Bool) : Nd := (Nd.prop Nd.yes.ok).and
  (Nd.ite (!p2)
    ((Nd.prop Nd.yes.ok).and
      ((Nd.prop
            ((!!decide ((BitVec.ofInt (64 : Nat) p0 &&& BitVec.ofNat (64 : Nat) (16 : Nat)).toInt = (16 : Int))) =
                true →
              (!!decide ((BitVec.ofInt (64 : Nat) p0 &&& BitVec.ofNat (64 : Nat) (16 : Nat)).toInt = (16 : Int))) =
                true)).and
        ((Nd.prop
              ((!!decide ((BitVec.ofInt (64 : Nat) p0 &&& BitVec.ofNat (64 : Nat) (16 : Nat)).toInt = (16 : Int)) &&
                    p3) =
                  true →
                (!!decide ((BitVec.ofInt (64 : Nat) p0 &&& BitVec.ofNat (64 : Nat) (16 : Nat)).toInt = (16 : Int)) &&
                    p3) =
                  true)).and
          ((Nd.prop
                ((!!decide ((BitVec.ofInt (64 : Nat) p0 &&& BitVec.ofNat (64 : Nat) (16 : Nat)).toInt = (16 : Int))) =
                    true →
                  p3 = true →
                    (!!decide
                              ((BitVec.ofInt (64 : Nat) p0 &&& BitVec.ofNat (64 : Nat) (16 : Nat)).toInt =
                                (16 : Int)) &&
                        p3) =
                      true)).and
            ((Nd.prop
                  ((!!decide ((BitVec.ofInt (64 : Nat) p0 &&& BitVec.ofNat (64 : Nat) (16 : Nat)).toInt = (16 : Int))) =
                      true →
                    (!!decide
                            ((BitVec.ofInt (64 : Nat) p0 &&& BitVec.ofNat (64 : Nat) (16 : Nat)).toInt = (16 : Int))) =
                      true)).and
              ((Nd.prop
                    ((!decide
                            ((BitVec.ofInt (64 : Nat) p0 &&& BitVec.ofNat (64 : Nat) (16 : Nat)).toInt = (16 : Int))) =
                        false →
                      (!!decide
                              ((BitVec.ofInt (64 : Nat) p0 &&& BitVec.ofNat (64 : Nat) (16 : Nat)).toInt =
                                (16 : Int))) =
                        true)).and
                ((Nd.prop Nd.yes.ok).and
                  ((Nd.prop
                        ((!!decide
                                  ((BitVec.ofInt (64 : Nat) p0 &&& BitVec.ofNat (64 : Nat) (64 : Nat)).toInt =
                                    (64 : Int))) =
                            true →
                          (!!decide
                                  ((BitVec.ofInt (64 : Nat) p0 &&& BitVec.ofNat (64 : Nat) (64 : Nat)).toInt =
                                    (64 : Int))) =
                            true)).and
                    ((Nd.prop
                          ((!decide
                                  ((BitVec.ofInt (64 : Nat) p0 &&& BitVec.ofNat (64 : Nat) (64 : Nat)).toInt =
                                    (64 : Int))) =
                              false →
                            (!!decide
                                    ((BitVec.ofInt (64 : Nat) p0 &&& BitVec.ofNat (64 : Nat) (64 : Nat)).toInt =
                                      (64 : Int))) =
                              true)).and
                      ((Nd.prop
                            ((!bif
                                      !decide
                                          ((BitVec.ofInt (64 : Nat) p0 &&& BitVec.ofNat (64 : Nat) (64 : Nat)).toInt =
                                            (64 : Int)) then
                                    true
                                  else
                                    !bif
                                          !decide
                                              ((BitVec.ofInt (64 : Nat) p0 &&&
                                                    BitVec.ofNat (64 : Nat) (16 : Nat)).toInt =
                                                (16 : Int)) then
                                        true
                                      else bif p3 then !decide (p1 = (0 : Int)) else false) =
                                true →
                              (!bif
                                      !decide
                                          ((BitVec.ofInt (64 : Nat) p0 &&& BitVec.ofNat (64 : Nat) (64 : Nat)).toInt =
                                            (64 : Int)) then
                                    true
                                  else
                                    !bif
                                          !decide
                                              ((BitVec.ofInt (64 : Nat) p0 &&&
                                                    BitVec.ofNat (64 : Nat) (16 : Nat)).toInt =
                                                (16 : Int)) then
                                        true
                                      else bif p3 then !decide (p1 = (0 : Int)) else false) =
                                true)).and
                        ((Nd.prop
                              ((bif
                                      !decide
                                          ((BitVec.ofInt (64 : Nat) p0 &&& BitVec.ofNat (64 : Nat) (64 : Nat)).toInt =
                                            (64 : Int)) then
                                    true
                                  else
                                    !bif
                                          !decide
                                              ((BitVec.ofInt (64 : Nat) p0 &&&
                                                    BitVec.ofNat (64 : Nat) (16 : Nat)).toInt =
                                                (16 : Int)) then
                                        true
                                      else bif p3 then !decide (p1 = (0 : Int)) else false) =
                                  false →
                                (!bif
                                        !decide
                                            ((BitVec.ofInt (64 : Nat) p0 &&& BitVec.ofNat (64 : Nat) (64 : Nat)).toInt =
                                              (64 : Int)) then
                                      true
                                    else
                                      !bif
                                            !decide
                                                ((BitVec.ofInt (64 : Nat) p0 &&&
                                                      BitVec.ofNat (64 : Nat) (16 : Nat)).toInt =
                                                  (16 : Int)) then
                                          true
                                        else bif p3 then !decide (p1 = (0 : Int)) else false) =
                                  true)).and
                          ((Nd.prop
                                ((!bif
                                          bif
                                              !decide
                                                  ((BitVec.ofInt (64 : Nat) p0 &&&
                                                        BitVec.ofNat (64 : Nat) (64 : Nat)).toInt =
                                                    (64 : Int)) then
                                            true
                                          else
                                            !bif
                                                  !decide
                                                      ((BitVec.ofInt (64 : Nat) p0 &&&
                                                            BitVec.ofNat (64 : Nat) (16 : Nat)).toInt =
                                                        (16 : Int)) then
                                                true
                                              else bif p3 then !decide (p1 = (0 : Int)) else false then
                                        true
                                      else decide (p1 < (0 : Int))) =
                                    true →
                                  (!bif
                                          bif
                                              !decide
                                                  ((BitVec.ofInt (64 : Nat) p0 &&&
                                                        BitVec.ofNat (64 : Nat) (64 : Nat)).toInt =
                                                    (64 : Int)) then
                                            true
                                          else
                                            !bif
                                                  !decide
                                                      ((BitVec.ofInt (64 : Nat) p0 &&&
                                                            BitVec.ofNat (64 : Nat) (16 : Nat)).toInt =
                                                        (16 : Int)) then
                                                true
                                              else bif p3 then !decide (p1 = (0 : Int)) else false then
                                        true
                                      else decide (p1 < (0 : Int))) =
                                    true)).and
                            ((Nd.prop
                                  ((bif
                                          bif
                                              !decide
                                                  ((BitVec.ofInt (64 : Nat) p0 &&&
                                                        BitVec.ofNat (64 : Nat) (64 : Nat)).toInt =
                                                    (64 : Int)) then
                                            true
                                          else
                                            !bif
                                                  !decide
                                                      ((BitVec.ofInt (64 : Nat) p0 &&&
                                                            BitVec.ofNat (64 : Nat) (16 : Nat)).toInt =
                                                        (16 : Int)) then
                                                true
                                              else bif p3 then !decide (p1 = (0 : Int)) else false then
                                        true
                                      else decide (p1 < (0 : Int))) =
                                      false →
                                    (!bif
                                            bif
                                                !decide
                                                    ((BitVec.ofInt (64 : Nat) p0 &&&
                                                          BitVec.ofNat (64 : Nat) (64 : Nat)).toInt =
                                                      (64 : Int)) then
                                              true
                                            else
                                              !bif
                                                    !decide
                                                        ((BitVec.ofInt (64 : Nat) p0 &&&
                                                              BitVec.ofNat (64 : Nat) (16 : Nat)).toInt =
                                                          (16 : Int)) then
                                                  true
                                                else bif p3 then !decide (p1 = (0 : Int)) else false then
                                          true
                                        else decide (p1 < (0 : Int))) =
                                      true)).and
                              (Nd.ite
                                (bif
                                    bif
                                        bif
                                            !decide
                                                ((BitVec.ofInt (64 : Nat) p0 &&&
                                                      BitVec.ofNat (64 : Nat) (64 : Nat)).toInt =
                                                  (64 : Int)) then
                                          true
                                        else
                                          !bif
                                                !decide
                                                    ((BitVec.ofInt (64 : Nat) p0 &&&
                                                          BitVec.ofNat (64 : Nat) (16 : Nat)).toInt =
                                                      (16 : Int)) then
                                              true
                                            else bif p3 then !decide (p1 = (0 : Int)) else false then
                                      true
                                    else decide (p1 < (0 : Int)) then
                                  true
                                else decide ((2 : Int) < p1))
                                Nd.yes
                                ((Nd.prop Nd.yes.ok).and
                                  ((Nd.prop Nd.yes.ok).and
                                    ((Nd.prop
                                          ((!decide
                                                  ((BitVec.ofInt (64 : Nat) p0 &&&
                                                        BitVec.ofNat (64 : Nat) (2 : Nat)).toInt =
                                                    (2 : Int))) =
                                              true →
                                            (!decide
                                                  ((BitVec.ofInt (64 : Nat) p0 &&&
                                                        BitVec.ofNat (64 : Nat) (2 : Nat)).toInt =
                                                    (2 : Int))) =
                                              true)).and
                                      ((Nd.prop
                                            ((!decide
                                                      ((BitVec.ofInt (64 : Nat) p0 &&&
                                                            BitVec.ofNat (64 : Nat) (2 : Nat)).toInt =
                                                        (2 : Int)) &&
                                                  p4) =
                                                true →
                                              Nd.yes.ok)).and
                                        ((Nd.prop
                                              ((!decide
                                                        ((BitVec.ofInt (64 : Nat) p0 &&&
                                                              BitVec.ofNat (64 : Nat) (2 : Nat)).toInt =
                                                          (2 : Int)) &&
                                                    p4) =
                                                  true →
                                                (!decide
                                                        ((BitVec.ofInt (64 : Nat) p0 &&&
                                                              BitVec.ofNat (64 : Nat) (2 : Nat)).toInt =
                                                          (2 : Int)) &&
                                                    p4) =
                                                  true)).and
                                          ((Nd.prop
                                                ((!decide
                                                        ((BitVec.ofInt (64 : Nat) p0 &&&
                                                              BitVec.ofNat (64 : Nat) (2 : Nat)).toInt =
                                                          (2 : Int))) =
                                                    true →
                                                  p4 = true →
                                                    (!decide
                                                            ((BitVec.ofInt (64 : Nat) p0 &&&
                                                                  BitVec.ofNat (64 : Nat) (2 : Nat)).toInt =
                                                              (2 : Int)) &&
                                                        p4) =
                                                      true)).and
                                            ((Nd.prop
                                                  ((!decide
                                                          ((BitVec.ofInt (64 : Nat) p0 &&&
                                                                BitVec.ofNat (64 : Nat) (2 : Nat)).toInt =
                                                            (2 : Int))) =
                                                      true →
                                                    (!decide
                                                          ((BitVec.ofInt (64 : Nat) p0 &&&
                                                                BitVec.ofNat (64 : Nat) (2 : Nat)).toInt =
                                                            (2 : Int))) =
                                                      true)).and
                                              ((Nd.prop
                                                    (decide
                                                          ((BitVec.ofInt (64 : Nat) p0 &&&
                                                                BitVec.ofNat (64 : Nat) (2 : Nat)).toInt =
                                                            (2 : Int)) =
                                                        false →
                                                      (!decide
                                                            ((BitVec.ofInt (64 : Nat) p0 &&&
                                                                  BitVec.ofNat (64 : Nat) (2 : Nat)).toInt =
                                                              (2 : Int))) =
                                                        true)).and
                                                ((Nd.prop Nd.yes.ok).and
                                                  ((Nd.prop ((0 : Int) ≤ p1 ∧ p1 < (3 : Int))).and
                                                    (Nd.prop (p1.toNat < (3 : Nat)))))))))))))))))))))))))))
    ((Nd.prop Nd.yes.ok).and
      ((Nd.prop
            ((!!decide ((BitVec.ofInt (64 : Nat) p0 &&& BitVec.ofNat (64 : Nat) (64 : Nat)).toInt = (64 : Int))) =
                true →
              (!!decide ((BitVec.ofInt (64 : Nat) p0 &&& BitVec.ofNat (64 : Nat) (64 : Nat)).toInt = (64 : Int))) =
                true)).and
        ((Nd.prop
              ((!decide ((BitVec.ofInt (64 : Nat) p0 &&& BitVec.ofNat (64 : Nat) (64 : Nat)).toInt = (64 : Int))) =
                  false →
                (!!decide ((BitVec.ofInt (64 : Nat) p0 &&& BitVec.ofNat (64 : Nat) (64 : Nat)).toInt = (64 : Int))) =
                  true)).and
          ((Nd.prop
                ((!bif
                          !decide
                              ((BitVec.ofInt (64 : Nat) p0 &&& BitVec.ofNat (64 : Nat) (64 : Nat)).toInt =
                                (64 : Int)) then
                        true
                      else
                        !decide
                            ((BitVec.ofInt (64 : Nat) p0 &&& BitVec.ofNat (64 : Nat) (16 : Nat)).toInt = (16 : Int))) =
                    true →
                  (!bif
                          !decide
                              ((BitVec.ofInt (64 : Nat) p0 &&& BitVec.ofNat (64 : Nat) (64 : Nat)).toInt =
                                (64 : Int)) then
                        true
                      else
                        !decide
                            ((BitVec.ofInt (64 : Nat) p0 &&& BitVec.ofNat (64 : Nat) (16 : Nat)).toInt = (16 : Int))) =
                    true)).and
            ((Nd.prop
                  ((bif
                          !decide
                              ((BitVec.ofInt (64 : Nat) p0 &&& BitVec.ofNat (64 : Nat) (64 : Nat)).toInt =
                                (64 : Int)) then
                        true
                      else
                        !decide
                            ((BitVec.ofInt (64 : Nat) p0 &&& BitVec.ofNat (64 : Nat) (16 : Nat)).toInt = (16 : Int))) =
                      false →
                    (!bif
                            !decide
                                ((BitVec.ofInt (64 : Nat) p0 &&& BitVec.ofNat (64 : Nat) (64 : Nat)).toInt =
                                  (64 : Int)) then
                          true
                        else
                          !decide
                              ((BitVec.ofInt (64 : Nat) p0 &&& BitVec.ofNat (64 : Nat) (16 : Nat)).toInt =
                                (16 : Int))) =
                      true)).and
              ((Nd.prop
                    ((!bif
                              bif
                                  !decide
                                      ((BitVec.ofInt (64 : Nat) p0 &&& BitVec.ofNat (64 : Nat) (64 : Nat)).toInt =
                                        (64 : Int)) then
                                true
                              else
                                !decide
                                    ((BitVec.ofInt (64 : Nat) p0 &&& BitVec.ofNat (64 : Nat) (16 : Nat)).toInt =
                                      (16 : Int)) then
                            true
                          else decide (p1 < (0 : Int))) =
                        true →
                      (!bif
                              bif
                                  !decide
                                      ((BitVec.ofInt (64 : Nat) p0 &&& BitVec.ofNat (64 : Nat) (64 : Nat)).toInt =
                                        (64 : Int)) then
                                true
                              else
                                !decide
                                    ((BitVec.ofInt (64 : Nat) p0 &&& BitVec.ofNat (64 : Nat) (16 : Nat)).toInt =
                                      (16 : Int)) then
                            true
                          else decide (p1 < (0 : Int))) =
                        true)).and
                ((Nd.prop
                      ((bif
                              bif
                                  !decide
                                      ((BitVec.ofInt (64 : Nat) p0 &&& BitVec.ofNat (64 : Nat) (64 : Nat)).toInt =
                                        (64 : Int)) then
                                true
                              else
                                !decide
                                    ((BitVec.ofInt (64 : Nat) p0 &&& BitVec.ofNat (64 : Nat) (16 : Nat)).toInt =
                                      (16 : Int)) then
                            true
                          else decide (p1 < (0 : Int))) =
                          false →
                        (!bif
                                bif
                                    !decide
                                        ((BitVec.ofInt (64 : Nat) p0 &&& BitVec.ofNat (64 : Nat) (64 : Nat)).toInt =
                                          (64 : Int)) then
                                  true
                                else
                                  !decide
                                      ((BitVec.ofInt (64 : Nat) p0 &&& BitVec.ofNat (64 : Nat) (16 : Nat)).toInt =
                                        (16 : Int)) then
                              true
                            else decide (p1 < (0 : Int))) =
                          true)).and
                  (Nd.ite
                    (bif
                        bif
                            bif
                                !decide
                                    ((BitVec.ofInt (64 : Nat) p0 &&& BitVec.ofNat (64 : Nat) (64 : Nat)).toInt =
                                      (64 : Int)) then
                              true
                            else
                              !decide
                                  ((BitVec.ofInt (64 : Nat) p0 &&& BitVec.ofNat (64 : Nat) (16 : Nat)).toInt =
                                    (16 : Int)) then
                          true
                        else decide (p1 < (0 : Int)) then
                      true
                    else decide ((2 : Int) < p1))
                    Nd.yes
                    ((Nd.prop Nd.yes.ok).and
                      ((Nd.prop Nd.yes.ok).and
                        ((Nd.prop
                              ((!decide
                                      ((BitVec.ofInt (64 : Nat) p0 &&& BitVec.ofNat (64 : Nat) (2 : Nat)).toInt =
                                        (2 : Int))) =
                                  true →
                                (!decide
                                      ((BitVec.ofInt (64 : Nat) p0 &&& BitVec.ofNat (64 : Nat) (2 : Nat)).toInt =
                                        (2 : Int))) =
                                  true)).and
                          ((Nd.prop
                                ((!decide
                                          ((BitVec.ofInt (64 : Nat) p0 &&& BitVec.ofNat (64 : Nat) (2 : Nat)).toInt =
                                            (2 : Int)) &&
                                      p4) =
                                    true →
                                  Nd.yes.ok)).and
                            ((Nd.prop
                                  ((!decide
                                            ((BitVec.ofInt (64 : Nat) p0 &&& BitVec.ofNat (64 : Nat) (2 : Nat)).toInt =
                                              (2 : Int)) &&
                                        p4) =
                                      true →
                                    (!decide
                                            ((BitVec.ofInt (64 : Nat) p0 &&& BitVec.ofNat (64 : Nat) (2 : Nat)).toInt =
                                              (2 : Int)) &&
                                        p4) =
                                      true)).and
                              ((Nd.prop
                                    ((!decide
                                            ((BitVec.ofInt (64 : Nat) p0 &&& BitVec.ofNat (64 : Nat) (2 : Nat)).toInt =
                                              (2 : Int))) =
                                        true →
                                      p4 = true →
                                        (!decide
                                                ((BitVec.ofInt (64 : Nat) p0 &&&
                                                      BitVec.ofNat (64 : Nat) (2 : Nat)).toInt =
                                                  (2 : Int)) &&
                                            p4) =
                                          true)).and
                                ((Nd.prop
                                      ((!decide
                                              ((BitVec.ofInt (64 : Nat) p0 &&&
                                                    BitVec.ofNat (64 : Nat) (2 : Nat)).toInt =
                                                (2 : Int))) =
                                          true →
                                        (!decide
                                              ((BitVec.ofInt (64 : Nat) p0 &&&
                                                    BitVec.ofNat (64 : Nat) (2 : Nat)).toInt =
                                                (2 : Int))) =
                                          true)).and
                                  ((Nd.prop
                                        (decide
                                              ((BitVec.ofInt (64 : Nat) p0 &&&
                                                    BitVec.ofNat (64 : Nat) (2 : Nat)).toInt =
                                                (2 : Int)) =
                                            false →
                                          (!decide
                                                ((BitVec.ofInt (64 : Nat) p0 &&&
                                                      BitVec.ofNat (64 : Nat) (2 : Nat)).toInt =
                                                  (2 : Int))) =
                                            true)).and
                                    ((Nd.prop Nd.yes.ok).and
                                      ((Nd.prop ((0 : Int) ≤ p1 ∧ p1 < (3 : Int))).and
                                        (Nd.prop (p1.toNat < (3 : Nat))))))))))))))))))))))
def F_pte_May : List V → Option (List Prop × SV)
  | [.sc (.int .i64 s0 p0), .sc (.int .i64 s1 p1), .sc (.bool s2 p2), .sc (.bool s3 p3), .sc (.bool s4 p4)] => some ([(nd_pte_May p0 p1 p2 p3 p4).ok], SV.ev (V.sc (SC.bool (s0 && s1 && s2 && s3 && s4) (m_pte_May_0 p0 p1 p2 p3 p4))))
  | _ => none
end Go.X.M

set_option maxRecDepth 100000
set_option linter.all false
set_option maxHeartbeats 4000000
namespace Go.X.M
open Go Go.X
end Go.X.M

set_option maxRecDepth 100000
set_option linter.all false
set_option maxHeartbeats 4000000
namespace Go.X.M
open Go Go.X
end Go.X.M

set_option maxRecDepth 100000
set_option linter.all false
set_option maxHeartbeats 4000000
namespace Go.X.M
open Go Go.X
end Go.X.M

set_option maxRecDepth 100000
set_option linter.all false
set_option maxHeartbeats 4000000
namespace Go.X.M
open Go Go.X
end Go.X.M

set_option maxRecDepth 100000
set_option linter.all false
set_option maxHeartbeats 4000000
namespace Go.X.M
open Go Go.X
end Go.X.M

set_option maxRecDepth 100000
set_option linter.all false
set_option maxHeartbeats 4000000
namespace Go.X.M
open Go Go.X
end Go.X.M

set_option maxRecDepth 100000
set_option linter.all false
set_option maxHeartbeats 4000000
namespace Go.X.M
open Go Go.X
end Go.X.M

set_option maxRecDepth 100000
set_option linter.all false
set_option maxHeartbeats 4000000
namespace Go.X.M
open Go Go.X
def nd_sallyportlaw17_known  : Nd := (Nd.prop Nd.yes.ok).and
  ((Nd.prop (Nd.prop Nd.yes.ok).ok).and
    ((Nd.prop Nd.yes.ok).and
      ((Nd.prop (Nd.prop Nd.yes.ok).ok).and
        ((Nd.prop Nd.yes.ok).and
          ((Nd.prop Nd.yes.ok).and
            ((Nd.prop (Nd.prop Nd.yes.ok).ok).and
              ((Nd.prop ((0 : Int) ≤ (8 : Int) ∧ (8 : Int) ≤ (32768 : Int) ∧ (32768 : Int) ≤ (32768 : Int))).and
                ((Nd.prop ((8 : Int) < (32768 : Int))).and
                  ((Nd.prop ((16 : Nat) ≤ (32768 : Nat))).and
                    ((Nd.prop
                          ((Nd.prop Nd.yes.ok).and
                              ((Nd.prop (Nd.prop Nd.yes.ok).ok).and
                                (Nd.prop
                                  ((Nd.prop
                                          ((0 : Int) ≤ (8 : Int) ∧
                                            (8 : Int) ≤ (9 : Int) ∧ (9 : Int) ≤ (32768 : Int))).and
                                      ((Nd.prop ((8 : Int) < (32768 : Int))).and
                                        ((Nd.prop ((9 : Nat) ≤ (32768 : Nat))).and
                                          (Nd.prop
                                            (nd_word_Get
                                                (bytesOf (1 : Nat) fun i =>
                                                  laid (fun x => BitVec.ofNat (8 : Nat) (0 : Nat))
                                                    (fun i =>
                                                      byteAt
                                                        (m_word_Bytes_0 (BitVec.ofNat (64 : Nat) (4660 : Nat))
                                                          (8 : Int))
                                                        i)
                                                    (8 : Nat) (8 : Nat) ((8 : Nat) + i))
                                                (0 : Int) (1 : Int)).ok)))).ok))).ok).and
                      ((Nd.prop (nd_alu_Extend (15 : Int) (BitVec.ofNat (64 : Nat) (52 : Nat))).ok).and
                        ((Nd.prop Nd.yes.ok).and
                          ((Nd.prop (Nd.prop Nd.yes.ok).ok).and
                            ((Nd.prop Nd.yes.ok).and
                              ((Nd.prop
                                    ((Nd.prop
                                            ((0 : Int) ≤ (8 : Int) ∧
                                              (8 : Int) ≤ (12 : Int) ∧ (12 : Int) ≤ (32768 : Int))).and
                                        ((Nd.prop ((8 : Int) < (32768 : Int))).and
                                          ((Nd.prop ((12 : Nat) ≤ (32768 : Nat))).and
                                            (Nd.prop
                                              (nd_word_Get
                                                  (bytesOf (4 : Nat) fun i =>
                                                    laid (fun x => BitVec.ofNat (8 : Nat) (0 : Nat))
                                                      (fun i =>
                                                        byteAt
                                                          (m_word_Bytes_0 (BitVec.ofNat (64 : Nat) (4660 : Nat))
                                                            (8 : Int))
                                                          i)
                                                      (8 : Nat) (8 : Nat) ((8 : Nat) + i))
                                                  (0 : Int) (4 : Int)).ok)))).ok).and
                                ((Nd.prop (true = true → true = true)).and
                                  ((Nd.prop (true = true → true = true)).and
                                    (Nd.prop (true = true → true = true)))))))))))))))))))
def F_sallyportlaw17_known : List V → Option (List Prop × SV)
  | [] => some ([(nd_sallyportlaw17_known ).ok], SV.ev (V.sc (SC.bool (true) true)))
  | _ => none
end Go.X.M

set_option maxRecDepth 100000
set_option linter.all false
set_option maxHeartbeats 4000000
namespace Go.X.M
open Go Go.X
end Go.X.M
